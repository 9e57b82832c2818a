/- The program's parting: finer, on what Minimize keeps. -/
import Derived.Test.YtpmjpogcaglphaaDoorMLMLaws28
set_option linter.unusedVariables false
set_option linter.unusedSimpArgs false
set_option linter.unnecessarySimpa false
namespace Go.Proofs.YtpmjpogcaglphaaDoor.A
open Go
set_option maxRecDepth 20000
def kL (N : List Int) (c : List Nat) (F : List Nat) : List (List Int) := F.map fun f => nL (u6 N c f)
theorem aq7 (N c s) : (u6 N c s).length = 6 := by simp [u6]
theorem bM4 (N c F) : ∀ x ∈ kL N c F, x.length = 6 := fun x hx => by
 obtain ⟨f, _, rfl⟩ := List.mem_map.1 hx
 rw [A5, aq7]
theorem bH7 (l : List Int) : flat.flats (cI l) = true := by
 induction l with
 | nil => rfl
 | cons x l ih =>
  show (flat (.int .i64 x) && flat.flats (cI l)) = true
  rw [ih]; rfl
theorem bY4 (N c F) (i : Nat) : bH6 (kL N c F) (nL (u6 N c i)) = match F.findIdx? (fun f => u6 N c f == u6 N c i) with | some k => (k : Int) | none => -1 := by
 have : (kL N c F).findIdx? (fun x => x == nL (u6 N c i)) = F.findIdx? (fun f => u6 N c f == u6 N c i) := by
  rw [kL, List.findIdx?_map]
  congr 1
  funext f
  rw [Bool.eq_iff_iff]
  simp only [Function.comp, beq_iff_eq]
  exact ⟨fun h => bM1 h, fun h => by rw [h]⟩
 rw [bH6, this]
 all_goals (cases F.findIdx? (fun f => u6 N c f == u6 N c i) <;> rfl)
def RKd (args : List AV) (r : AV) : Prop := ∃ (n : Nat) (N : List Int) (A : List Bool) (c : List Nat) (s : Nat), WfD n N A ∧ c.length = n ∧ s < n ∧ args = [.fptr [.sl n (cI N), .sl n (cB A), .sl n (cI (nL c))], .int .i64 s] ∧ r = .agg (cI (nL (u6 N c s)))
theorem ct0 : Q5 RKd := by
 rintro args r r' ⟨n, N, A, c, s, _, _, _, rfl, rfl⟩ ⟨n', N', A', c', s', _, _, _, h, rfl⟩
 simp only [List.cons.injEq, AV.fptr.injEq, AV.sl.injEq, AV.int.injEq, true_and, and_true] at h
 obtain ⟨⟨⟨_, h1⟩, _, ⟨_, h2⟩⟩, h3⟩ := h
 rw [P1 h1, bM1 (P1 h2), show s = s' by omega]
theorem ct1 (args r) (h : RKd args r) : Ok Tryd.prog 60 args r := by obtain ⟨n, N, A, c, s, h1, h2, h3, rfl, rfl⟩ := h; exact bY0 h1 h2 h3
def cF5 (args : List AV) (r : AV) : Prop := ∃ (K : List (List Int)) (y : List Int), (∀ x ∈ K, x.length = 6) ∧ K.length ≤ 100000 ∧ y.length = 6 ∧ args = [.sl K.length (kC K), cF4 y] ∧ r = .int .i64 (bH6 K y)
theorem bY5 : Q5 cF5 := by
 rintro args r r' ⟨K, y, h1, _, _, rfl, rfl⟩ ⟨K', y', h1', _, _, h, rfl⟩
 simp only [List.cons.injEq, AV.sl.injEq, AV.fn.injEq, AV.fptr.injEq, true_and, and_true] at h
 rw [bM3 h1 h1' h.1.2, P1 h.2]
theorem bY6 (args r) (h : cF5 args r) : Ok Tryd.prog 61 args r := by obtain ⟨K, y, h1, h2, h3, rfl, rfl⟩ := h; exact bY3 h1 h2 h3
noncomputable def XK : FuncId → List AV → Option AV := p4 [(60, E3 RKd), (61, E3 cF5)]
theorem cQ7 : m7 Tryd.prog XK := k0 (k0 (p9 _) (n5 bY6)) (n5 ct1)
theorem bY7 {n : Nat} {N : List Int} {A : List Bool} (hw : WfD n N A) {c : List Nat} (hc : c.length = n) {s : Nat} (hs : s < n) : XK 60 [.fptr [.sl n (cI N), .sl n (cB A), .sl n (cI (nL c))], .int .i64 s] = some (.agg (cI (nL (u6 N c s)))) := m8 (R := RKd) ct0 ⟨_, _, _, _, _, hw, hc, hs, rfl, rfl⟩
theorem ct2 {K : List (List Int)} {n : Nat} (hn : K.length = n) (hK : ∀ x ∈ K, x.length = 6) (hl : n ≤ 100000) {y : List Int} (hy : y.length = 6) : XK 61 [.sl n (kC K), cF4 y] = some (.int .i64 (bH6 K y)) := m8 (R := cF5) bY5 ⟨K, y, hK, by omega, hy, by rw [hn], rfl⟩
theorem ct3 (X) : f7 (EX md0 X) (fun _ => none) 1 Tryd.f39 = true := by kernel_rfl
abbrev bu7 (nx : Nat) (o o' : Ob) : Prop := Kp [43, 23] nx o o'
abbrev ai1 : AV := .ptr (1, 23) (1, 23) 0
theorem be9 (x : List Nat) (n i : Nat) (v : Int) (hx : x.length = i) (hi : i < n) : r8 (cI (nL x ++ List.replicate (n - i) 0)) i [.int .i64 v] = cI (nL x ++ v :: List.replicate (n - (i + 1)) 0) := by
 rw [aT1 _ _ _ (by rw [List.length_append, A5, List.length_replicate]; omega), List.set_append, if_neg (by rw [A5]; omega), A5, hx, Nat.sub_self]
 obtain ⟨d, hd⟩ : ∃ d, n - i = d + 1 := ⟨n - i - 1, by omega⟩
 rw [hd, show n - (i + 1) = d by omega, List.replicate_succ]
 rfl
theorem aJ1 (x : List Nat) (l : List Int) (i : Nat) (v w : Int) (hx : x.length = i) : r8 (cI (nL x ++ v :: l)) i [.int .i64 w] = cI (nL x ++ w :: l) := by
 rw [aT1 _ _ _ (by rw [List.length_append, A5, List.length_cons]; omega), List.set_append, if_neg (by rw [A5]; omega), A5, hx, Nat.sub_self]
 rfl
theorem bu8 (x : List Nat) (l : List Int) (i s : Nat) (v : Int) (hx : x.length = i) : M5 false s ((cI (nL x ++ v :: l)).drop i) = some (.int .i64 v) := by
 rw [av2, List.drop_append, List.drop_eq_nil_of_le (by rw [l5, A5]; omega), l5, A5, hx, Nat.sub_self]
 rfl
set_option maxHeartbeats 4000000 in
theorem bH8 (cr : q8) {o : Ob} {nx : Nat} {n : Nat} {N : List Int} {A : List Bool} (hw : WfD n N A) {c : List Nat} (hc : c.length = n) {q s : Nat} {g : Tag} (hqn : q < nx) (hs : s ∉ [43, 23]) (h2 : 2 ≤ nx)
  (hr : o (1, 23) = some (.row ⟨66, 1, (1, 23), false, true, [.sl n (cI N), .sl n (cB A), .ref (q, s) g 0 n]⟩)) (hq : o (q, s) = some (.row ⟨3, 1, g, false, true, cI (nL c)⟩)) :
  WP (EX md0 XK) cr 2005 (fun _ => none) (Tryd.f39.body.getD .skip) (y0 [ai1]) o nx (fun u a o' nx' => u = .ret ∧ a 2 = .int .i64 ((R6 N c n).1.length : Nat) ∧ nx + 4 ≤ nx' ∧
   o' (1, 23) = some (.row ⟨66, 1, (1, 23), false, true, [.sl n (cI N), .sl n (cB A), .ref (nx + 3, 15) (nx + 3, 15) 0 n]⟩) ∧ o' (nx + 3, 15) = some (.row ⟨3, 1, (nx + 3, 15), false, true, cI (nL (R6 N c n).2)⟩) ∧ bu7 nx o o') := by
 have hn := hw.sz
 have hcl : (cI (nL c)).length = n := by rw [l5, A5, hc]
 have hctk : (cI (nL c)).take n = cI (nL c) := j0 hcl
 simp only [Tryd.f39, Option.getD_some]
 simp (disch := omega) only [go_sem, hr, hq]
 refine u2 (fun m a o' nx' => ∃ (i : Nat) (F x : List Nat) (vK : AV), R6 N c i = (F, x) ∧ x.length = i ∧ F.length ≤ i ∧ i ≤ n ∧ m = n - i ∧ nx + 5 ≤ nx' ∧ Kp [43] nx o o' ∧
   o' (nx + 3, 15) = some (.row ⟨3, 1, (nx + 3, 15), false, true, cI (nL x ++ List.replicate (n - i) 0)⟩) ∧ HS 110 6 43 o' nx' vK F.length (kC (kL N c F)) ∧
   a 0 = ai1 ∧ a 3 = .fn (.func 60) [ai1] [] ∧ a 4 = vK ∧ a 5 = .ref (nx + 3, 15) (nx + 3, 15) 0 n ∧ a 17 = .int .i64 n ∧ a 18 = .int .i64 i) n (by omega)
  ⟨0, [], [], .nil, rfl, rfl, Nat.le_refl _, by omega, by omega, by omega, (Kp.refl _ _ _).upd (.inl (by omega)), by simp [d6, an9, nL], HS.nil, by simp (disch := omega) only [go_sem], by simp (disch := omega) only [go_sem], by simp (disch := omega) only [go_sem], by simp (disch := omega) only [go_sem], by simp (disch := omega) only [go_sem], by simp (disch := omega) only [go_sem]⟩ ?_
 rintro m a o' nx' ⟨i, F, x, vK, hf, hxl, hFl, hi, rfl, hnx', hkp, ho15, hK, ha0, ha3, ha4, ha5, ha17, ha18⟩
 have hr' := (hkp 1 23 (by omega) (by decide)).trans hr
 have hq' := (hkp q s hqn (fun h => hs (by simp at h; simp [h]))).trans hq
 by_cases hlt : i < n
 ·have hkd := bY7 hw hc hlt
  have hkl : (kL N c F).length = F.length := by simp [kL]
  have hidx := ct2 hkl (bM4 N c F) (by omega) (y := nL (u6 N c i)) (by rw [A5, aq7])
  rw [bY4] at hidx
  have hfs : R6 N c (i + 1) = match F.findIdx? (fun f => u6 N c f == u6 N c i) with | some k => (F, x ++ [k]) | none => (F ++ [i], x ++ [F.length]) := by
   rw [R6, hf]
   rfl
  have hkla : kL N c (F ++ [i]) = kL N c F ++ [nL (u6 N c i)] := by simp [kL]
  have hl6 : (cI (nL (u6 N c i))).length = 6 := by rw [l5, A5, aq7]
  have ht6 : (cI (nL (u6 N c i))).take 6 = cI (nL (u6 N c i)) := j0 hl6
  have hok6 := as2 (nL (u6 N c i))
  have hvi := fun o d => T3 o d (nL (u6 N c i))
  have hv : ∀ o'' : Ob, (∀ i, o'' (i, 43) = o' (i, 43)) → view o'' 1012 vK = .sl F.length (kC (kL N c F)) := fun o'' h => by
   rw [(hK.keep (fun i _ => h i) (Nat.le_refl _)).view 1011, bY2]
  have hokK := hK.ok
  have hkC1 : kC (kL N c F ++ [nL (u6 N c i)]) = kC (kL N c F) ++ cI (nL (u6 N c i)) := by rw [cs4]; simp [kC]
  have hdz : List.drop 6 [AV.int .i64 0, .int .i64 0, .int .i64 0, .int .i64 0, .int .i64 0, .int .i64 0] = [] := rfl
  have hrl : (cI (nL x ++ List.replicate (n - i) 0)).length = n := by rw [l5, List.length_append, A5, List.length_replicate]; omega
  have hrl2 : ∀ v : Int, (cI (nL x ++ v :: List.replicate (n - (i + 1)) 0)).length = n := fun v => by rw [l5, List.length_append, A5, List.length_cons, List.length_replicate]; omega
  have hset := fun v => be9 x n i v hxl hlt
  have hset2 := fun v w => aJ1 x (List.replicate (n - (i + 1)) 0) i v w hxl
  have hget := fun v => bu8 x (List.replicate (n - (i + 1)) 0) i 1 v hxl
  have hlK : ∀ o'' : Ob, N6 Tryd.prog o'' 108 vK = some (.int .i64 (F.length : Nat)) := fun o'' => by
   rcases hK with ⟨rfl, h0, _⟩ | ⟨i1, g1, rfl, _⟩
   ·rw [h0]; rfl
   ·rfl
  obtain ⟨jK, hjK, hap⟩ := hK.app (nx' + 6) 48 1 (cI (nL (u6 N c i))) (by omega) (by rw [hl6]) hok6 (by simp only [X4]; omega)
  have hkC6 : (kC (kL N c F)).length = F.length * 6 := by rw [aJ0 (bM4 N c F), hkl]
  have hfl := bH7 (nL (u6 N c i))
  generalize hkm : nL (u6 N c i) = km at *
  cases hfi : F.findIdx? (fun f => u6 N c f == u6 N c i) with
  | some k =>
   rw [hfi] at hfs hidx
   dsimp only at hfs hidx
   obtain ⟨hkF, _⟩ := List.findIdx?_eq_some_iff_getElem.1 hfi
   simp (disch := first | omega | (intro _; simp only [d6, Nat.reduceEqDiff, if_false])) only [go_sem, ha0, ha3, ha4, ha5, ha17, ha18, hr', hq', ho15, hcl, hctk, hkd, hv, hidx, hl6, ht6, hok6, hdz, List.append_nil, hrl, hrl2, hset, hset2, hget, hvi, hfl]
   exact ⟨n - (i + 1), by omega, i + 1, F, x ++ [k], vK, hfs, by simp [hxl], by omega, by omega, rfl, by omega, ((hkp.upd (.inl (by omega))).upd (.inl (by omega))).upd (.inl (by omega)), by simp [nL], hK.keep (fun i' _ => by simp [d6]) (by omega), rfl, rfl⟩
  | none =>
   rw [hfi] at hfs hidx
   dsimp only at hfs hidx
   simp (disch := first | omega | (intro _; simp only [d6, Nat.reduceEqDiff, if_false])) only [go_sem, ha0, ha3, ha4, ha5, ha17, ha18, hr', hq', ho15, hcl, hctk, hkd, hv, hidx, hl6, ht6, hok6, hdz, List.append_nil, hrl, hrl2, hset, hset2, hget, hvi, hfl, hlK, hap]
   refine ⟨n - (i + 1), by omega, i + 1, F ++ [i], x ++ [F.length], _, hfs, by simp [hxl], by simp; omega, by omega, rfl, by omega, (((((hkp.upd (.inl (by omega))).upd (.inl (by omega))).upd (.inl (by omega))).upd (.inl (by omega))).upd (.inl (by omega))).upd (.inr (by decide)), by simp [nL], ?_, rfl, rfl⟩
   rw [hkla, hkC1, List.length_append]
   exact HS.grown (m := 1) (by omega) (by simp [d6]) hkC6 (by rw [hl6])
 ·have hie : i = n := by omega
  subst hie
  rw [hf]
  rw [Nat.sub_self, List.replicate_zero, List.append_nil] at ho15
  have hlK : ∀ o'' : Ob, N6 Tryd.prog o'' 108 vK = some (.int .i64 (F.length : Nat)) := fun o'' => by
   rcases hK with ⟨rfl, h0, _⟩ | ⟨i1, g1, rfl, _⟩
   ·rw [h0]; rfl
   ·rfl
  simp (disch := omega) only [go_sem, ha0, ha3, ha4, ha5, ha17, ha18, hr', hlK]
  exact ⟨by omega, ho15, (hkp.more (fun k hk h => hk (by simp at h; simp [h]))).upd (.inr (by decide))⟩
noncomputable def ct4 : q8 := p5 [(39, fun args H => if args.length = 1 then ar9 (EX md0 XK) noR 2005 (fun _ => none) Tryd.f39 args H else none)]
theorem bY8 : u9 Tryd.prog ct4 ∧ Up ct4 := by
 refine m9 (G7 _) fun args H v H' h => ?_
 split at h
 ·rename_i hn
  exact K4 (E := EX md0 XK) cQ7 (o8 Tryd.prog).1 (o8 Tryd.prog).2 mixed Tryd.func39 (by rw [hn]; exact ct3 XK) h
 ·cases h
theorem bf0 {o : Ob} {nx : Nat} {n : Nat} {N : List Int} {A : List Bool} (hw : WfD n N A) {c : List Nat} (hc : c.length = n) {q s : Nat} {g : Tag} (hqn : q < nx) (hs : s ∉ [43, 23]) (h2 : 2 ≤ nx)
  (hr : o (1, 23) = some (.row ⟨66, 1, (1, 23), false, true, [.sl n (cI N), .sl n (cB A), .ref (q, s) g 0 n]⟩)) (hq : o (q, s) = some (.row ⟨3, 1, g, false, true, cI (nL c)⟩)) {K : AV × AH → Prop}
  (hK : ∀ o' nx', nx + 4 ≤ nx' → o' (1, 23) = some (.row ⟨66, 1, (1, 23), false, true, [.sl n (cI N), .sl n (cB A), .ref (nx + 3, 15) (nx + 3, 15) 0 n]⟩) → o' (nx + 3, 15) = some (.row ⟨3, 1, (nx + 3, 15), false, true, cI (nL (R6 N c n).2)⟩) → bu7 nx o o' → K (.int .i64 ((R6 N c n).1.length : Nat), ⟨o', nx'⟩)) :
  wO (Option.map (fun p => p8 false p.1 p.2) (ct4 39 [ai1] ⟨o, nx⟩)) K := by
 refine be7 (E := EX md0 XK) (fn := Tryd.f39) rfl (T1 (bH8 noR hw hc hqn hs h2 hr hq) ?_)
 rintro u a o' nx' ⟨rfl, h1, h2, h3, h4, h5⟩
 refine ⟨.inr rfl, ?_⟩
 simp only [Tryd.f39]
 simp (disch := omega) only [go_sem, h1]
 exact hK o' nx' h2 h3 h4 h5
set_option maxRecDepth 20000
theorem bM5 {t : TypeId} (h : aY7 (Tryd.prog.underlying t) = true) {n : Nat} (hn : 0 < n) (cs : List AV) : I1 Tryd.prog .eql t (.sl n cs) .nil = some (.bool false) := by
 unfold I1
 simp only [h, if_true, bN2, if_pos hn]
 rfl
theorem ct5 (X) : f7 (EX md0 X) (fun _ => none) 1 Tryd.f40 = true := by kernel_rfl
theorem ct6 (X) : f7 (EX md0 X) (fun _ => none) 1 Tryd.f41 = true := by kernel_rfl
theorem bu9 {n : Nat} {N : List Int} (hn : 0 < n) (hm : n ≤ 100000) (hl : N.length = 5 * n) : Ok Tryd.prog 40 [.sl n (cI N)] (.sl n (cI N)) := by
 refine m5 (E := EX md0 (fun _ _ => none)) (cr := noR) (p9 _) (o8 _) mixed (k := 0) Tryd.func40 (ct5 _) rfl ?_
 have h0 := bM5 (t := 24) (by kernel_rfl) hn (cI N)
 have h1 : (cI N).length = n * 5 := by rw [l5, hl]; omega
 have h2 : (cI N).take (n * 5) = cI N := j0 h1
 simp only [Tryd.f40, Option.getD_some]
 simp (disch := omega) only [go_sem, h0, h1, h2, Nat.zero_mul, List.take_zero, List.nil_append, Nat.zero_add, List.drop_zero]
theorem bv0 {A : List Bool} (hn : 0 < A.length) (hm : A.length ≤ 100000) : Ok Tryd.prog 41 [.sl A.length (cB A)] (.sl A.length (cB A)) := by
 refine m5 (E := EX md0 (fun _ _ => none)) (cr := noR) (p9 _) (o8 _) mixed (k := 0) Tryd.func41 (ct6 _) rfl ?_
 have h0 := bM5 (t := 25) (by kernel_rfl) hn (cB A)
 have h1 : (cB A).length = A.length * 1 := by rw [F4]; omega
 have h2 : (cB A).take (A.length * 1) = cB A := j0 h1
 have h3 : (cB A).take A.length = cB A := j0 (F4 A)
 simp only [Tryd.f41, Option.getD_some]
 simp (disch := omega) only [go_sem, h0, h1, h2, h3, Nat.zero_mul, List.take_zero, List.nil_append, Nat.zero_add, List.drop_zero]
def RC5 (args : List AV) (r : AV) : Prop := ∃ (n : Nat) (N : List Int), 0 < n ∧ n ≤ 100000 ∧ N.length = 5 * n ∧ args = [.sl n (cI N)] ∧ r = .sl n (cI N)
theorem ct7 : Q5 RC5 := by
 rintro args r r' ⟨n, N, _, _, _, rfl, rfl⟩ ⟨n', N', _, _, _, h, rfl⟩
 simp only [List.cons.injEq, and_true] at h
 exact h
theorem ct8 (args r) (h : RC5 args r) : Ok Tryd.prog 40 args r := by obtain ⟨n, N, h1, h2, h3, rfl, rfl⟩ := h; exact bu9 h1 h2 h3
def RCb (args : List AV) (r : AV) : Prop := ∃ A : List Bool, 0 < A.length ∧ A.length ≤ 100000 ∧ args = [.sl A.length (cB A)] ∧ r = .sl A.length (cB A)
theorem ct9 : Q5 RCb := by
 rintro args r r' ⟨A, _, _, rfl, rfl⟩ ⟨A', _, _, h, rfl⟩
 simp only [List.cons.injEq, and_true] at h
 exact h
theorem cu0 (args r) (h : RCb args r) : Ok Tryd.prog 41 args r := by obtain ⟨A, h1, h2, rfl, rfl⟩ := h; exact bv0 h1 h2
noncomputable def XMz : FuncId → List AV → Option AV := p4 [(40, E3 RC5), (41, E3 RCb)]
theorem cu1 : m7 Tryd.prog XMz := k0 (k0 (p9 _) (n5 cu0)) (n5 ct8)
theorem cQ8 {n : Nat} {N : List Int} (hn : 0 < n) (hm : n ≤ 100000) (hl : N.length = 5 * n) : XMz 40 [.sl n (cI N)] = some (.sl n (cI N)) := m8 (R := RC5) ct7 ⟨_, _, hn, hm, hl, rfl, rfl⟩
theorem cQ9 {n : Nat} {A : List Bool} (hn : 0 < n) (hm : n ≤ 100000) (hl : A.length = n) : XMz 41 [.sl n (cB A)] = some (.sl n (cB A)) := by
 subst hl
 exact m8 (R := RCb) ct9 ⟨_, hn, hm, rfl, rfl⟩
def G6 (cl : Nat → Nat) : Nat → List Nat → List (AV × AV)
 | _, [] => []
 | j, s :: l => (.int .i64 (cl s : Nat), .int .i64 (j : Nat)) :: G6 cl (j + 1) l
theorem ai2 (cl : Nat → Nat) (to : Nat) : ∀ (L : List Nat) (j : Nat), G6 cl j (L ++ [to]) = G6 cl j L ++ [(.int .i64 (cl to : Nat), .int .i64 (j + L.length : Nat))]
 | [], j => rfl
 | s :: l, j => by
  rw [List.cons_append, G6, G6, ai2 cl to l (j + 1), List.cons_append, List.length_cons, show j + 1 + l.length = j + (l.length + 1) by omega]
theorem ag0 (cl : Nat → Nat) (k : Nat) : ∀ (L : List Nat) (j : Nat), J9 (.int .i64 (k : Nat)) (G6 cl j L) = some ((L.findIdx? fun s => cl s == k).map fun i => .int .i64 (j + i : Nat))
 | [], j => rfl
 | s :: l, j => by
  have ih := ag0 cl k l (j + 1)
  rw [G6, J9, ih, List.findIdx?_cons]
  have he : N5 (.int .i64 (k : Nat)) (.int .i64 (cl s : Nat)) = some (cl s == k) := by
   simp only [N5, if_true]
   congr 1
   rw [Bool.eq_iff_iff]
   simp only [beq_iff_eq]
   omega
  rw [he]
  by_cases h : cl s == k
  ·rw [h]; simp
  ·have h : (cl s == k) = false := by simpa using h
   rw [h]
   cases List.findIdx? (fun s => cl s == k) l with
   | none => rfl
   | some i => simp; omega
theorem bY9 {cl : Nat → Nat} {L : List Nat} {to : Nat} (h : L.findIdx? (fun s => cl s == cl to) = none) : aC6 (.int .i64 (cl to : Nat)) (.int .i64 (L.length : Nat)) (G6 cl 0 L) = G6 cl 0 (L ++ [to]) := by
 have hf := ag0 cl (cl to) L 0
 rw [h] at hf
 rw [(O7 hf).2, ai2, Nat.zero_add]
def bx3 : Nat → Option (List (Nat × Nat))
 | 1 => some [(0, 4)]
 | 29 => some [(1, 3), (3, 6), (4, 6), (3, 8), (4, 8), (3, 12), (4, 12), (3, 14), (4, 14), (1, 15), (2, 15), (3, 15), (4, 15), (6, 15)]
 | 30 => some [(2, 4)]
 | _ => none
theorem cu2 : f7 (EX md0 XMz) bx3 1 Tryd.f16 = true := by kernel_rfl
set_option maxHeartbeats 8000000 in
theorem cu3 {n : Nat} {N : List Int} {A : List Bool} (hw : WfD n N A) :
  WP (EX md0 XMz) ct4 2005 bx3 (Tryd.f16.body.getD .skip) (y0 [ar3 n N A]) (fun _ => none) 0 (fun u a o nx => u = .ret ∧ view o n6 ((N4 Tryd.prog 27 (a 2) ⟨o, nx⟩).getD .und) = ar3 (Z1 N A).length (ar4 N A) (Z1 N A)) := by
 have hn := hw.sz
 have hN := hw.l
 have hA := hw.a
 have hO := hw.okD
 have hrun := (aw5 hO).run
 have hcl := bt9 hO
 have hclen := bX8 hO
 have hcls := (ak1 hO).1
 have hc0 := hcl 0
 have hres : ar3 (Z1 N A).length (ar4 N A) (Z1 N A) = .agg [.sl (R5 N A).1.length (cI (nL (R5 N A).2)), .sl (R5 N A).1.length (cB (bM2 A (R5 N A).1))] := by
  rw [ar3, slB, ac8]; rfl
 rw [hres]
 generalize R5 N A = P at *
 generalize P4 N A = c at *
 rw [hA] at hrun hcl hclen hc0 hcls
 simp only [Tryd.f16, Option.getD_some]
 rw [ar3, slB, hA]
 simp (disch := omega) only [go_sem, bx3]
 refine u2 (fun m a o nx => ∃ i : Nat, i ≤ n ∧ m = n - i ∧ 2 ≤ nx ∧ a 1 = .ptr (0, 1) (0, 1) 0 ∧ a 2 = .ptr (0, 2) (0, 2) 0 ∧ a 3 = ai1 ∧ a 25 = .sl n (cB A) ∧ a 26 = .int .i64 n ∧ a 27 = .int .i64 i ∧ o (0, 1) = some (.row ⟨27, 1, (0, 1), false, true, [.sl n (cI N), .sl n (cB A)]⟩) ∧ o (0, 2) = some (.row ⟨27, 1, (0, 2), false, true, [.nil, .nil]⟩) ∧ o (1, 23) = some (.row ⟨66, 1, (1, 23), false, true, [.sl n (cI N), .sl n (cB A), .ref (1, 21) (1, 21) 0 n]⟩) ∧ o (1, 21) = some (.row ⟨3, 1, (1, 21), false, true, cI (nL (aq3 (A.take i)) ++ List.replicate (n - i) 0)⟩)) n (by omega)
  ⟨0, by omega, by omega, by omega, by simp (disch := omega) only [go_sem], by simp (disch := omega) only [go_sem], by simp (disch := omega) only [go_sem], by simp (disch := omega) only [go_sem], by simp (disch := omega) only [go_sem], by simp (disch := omega) only [go_sem], by simp [d6], by simp [d6], by simp [d6], by simp [d6, an9, nL, aq3]⟩ ?_
 rintro m a o nx ⟨i, hi, rfl, hnx, h1, h2, h3, h25, h26, h27, o1, o2, o23, o21⟩
 by_cases hlt : i < n
 ·have hat := av4 (l := A) (i := i) (s := 1) (by omega)
  have hsn := bu5 (A := A) (i := i) (by omega)
  have hxl : (aq3 (A.take i)).length = i := by simp [aq3]; omega
  have hset1 : r8 (cI (nL (aq3 (A.take i)) ++ List.replicate (n - i) 0)) i [.int .i64 1] = cI (nL (aq3 (A.take i) ++ [1]) ++ List.replicate (n - (i + 1)) 0) := aP6 _ n i 1 hxl hlt
  have hzero := bH3 (aq3 (A.take i)) n i hlt
  have hrl : (cI (nL (aq3 (A.take i)) ++ List.replicate (n - i) 0)).length = n := by rw [l5, List.length_append, A5, List.length_replicate]; omega
  generalize A.getD i false = b at hat hsn
  cases b
  ·rw [if_neg (by decide)] at hsn
   rw [← hsn] at hzero
   simp (disch := omega) only [go_sem, h1, h2, h3, h25, h26, h27, o1, o2, o23, o21, hat]
   exact ⟨_, by omega, i + 1, by omega, rfl, rfl, by rw [hzero]⟩
  ·rw [if_pos rfl] at hsn
   rw [← hsn] at hset1
   simp (disch := omega) only [go_sem, h1, h2, h3, h25, h26, h27, o1, o2, o23, o21, hat, hset1, hrl]
   exact ⟨_, by omega, i + 1, by omega, rfl, rfl, rfl⟩
 ·have hie : i = n := by omega
  subst hie
  rw [Nat.sub_self, List.replicate_zero, List.append_nil, List.take_of_length_le (by omega)] at o21
  have hcl0 : (aq3 A).length = i := by simp [aq3]; omega
  simp (disch := omega) only [go_sem, h1, h2, h3, h25, h26, h27]
  refine u2 (fun m a o nx => ∃ (r : Nat) (c' : List Nat) (k q s : Nat) (g : Tag), aj0 N i r c' k = some c ∧ c'.length = i ∧ m = r ∧ 2 ≤ nx ∧ q < nx ∧ s ∉ [43, 23] ∧ a 1 = .ptr (0, 1) (0, 1) 0 ∧ a 2 = .ptr (0, 2) (0, 2) 0 ∧ a 3 = ai1 ∧ a 6 = .int .i64 k ∧ o (0, 1) = some (.row ⟨27, 1, (0, 1), false, true, [.sl i (cI N), .sl i (cB A)]⟩) ∧ o (0, 2) = some (.row ⟨27, 1, (0, 2), false, true, [.nil, .nil]⟩) ∧ o (1, 23) = some (.row ⟨66, 1, (1, 23), false, true, [.sl i (cI N), .sl i (cB A), .ref (q, s) g 0 i]⟩) ∧ o (q, s) = some (.row ⟨3, 1, g, false, true, cI (nL c')⟩)) (i + 2) (by omega)
   ⟨i + 2, aq3 A, 0, 1, 21, (1, 21), hcls, hcl0, rfl, by omega, by omega, by decide, by simp (disch := omega) only [go_sem, h1], by simp (disch := omega) only [go_sem, h2], by simp (disch := omega) only [go_sem, h3], by simp (disch := omega) only [go_sem], o1, o2, o23, o21⟩ ?_
  clear h1 h2 h3 h25 h26 h27 o1 o2 o23 o21 hcls hcl0 hnx
  rintro m a o nx ⟨r, c', k, q, s, g, hp, hcl', rfl, hnx, hqn, hs, h1, h2, h3, h6, o1, o2, o23, oq⟩
  obtain ⟨r', rfl, hs'⟩ := be6 hp
  simp (disch := omega) only [go_sem, h1, h2, h3, h6]
  refine bf0 hw hcl' (show q < nx + 1 by omega) hs (by omega) o23 oq fun o' nx' hnx' o23' o15 hkp => ?_
  have o1' := (hkp 0 1 (by omega) (by decide)).trans o1
  have o2' := (hkp 0 2 (by omega) (by decide)).trans o2
  have hl1 := bH2 N c' i
  clear o1 o2 o23 oq hkp hp
  generalize R6 N c' i = FX at *
  obtain ⟨F, x⟩ := FX
  dsimp only at hs' hl1 o15
  by_cases he : F.length = k
  ·rw [if_pos he] at hs'
   subst hs'
   have he' : ((F.length : Nat) : Int) = (k : Int) := by rw [he]
   have q0 := be5 (l := x) (i := 0) (s := 1) (by omega)
   rw [List.drop_zero] at q0
   have hup0 : ∀ (tg : Tag) (o : Ob) (nx : Nat) (k : Int), bA4 tg (.int .i64 k) (.int .i64 0) o nx [] = some ⟨upd o tg (.map [(.int .i64 k, .int .i64 0)]), nx⟩ := fun tg o nx k => aM7 rfl tg _ o nx
   simp (disch := omega) only [go_sem, h1, h2, h3, h6, he', o23', o15, q0, hup0]
   clear q0 hup0 he' h6
   obtain ⟨b, hb⟩ : ∃ b, b = nx + 1 + 3 := ⟨_, rfl⟩
   rw [← hb] at o23' o15
   have hbn : b < nx' + 1 := by omega
   have hcl2 := hcl
   obtain ⟨cl, hcle⟩ : ∃ cl : Nat → Nat, cl = fun s => x.getD s 0 := ⟨_, rfl⟩
   have hcla : ∀ s, x.getD s 0 = cl s := fun s => by rw [hcle]
   rw [← hcle] at hrun
   replace hcl : ∀ s, cl s < i := fun s => by rw [← hcla]; exact hcl2 s
   refine u2 (fun mm a o nx => ∃ (r j : Nat) (L R : List Nat) (g : Tag) (vN vA : AV), goC cl (R3 N) r j L R = some P ∧ mm = r ∧ j ≤ L.length ∧ 1 ≤ L.length ∧ aB3 cl L ∧ R.length = j * 5 ∧ (∀ s ∈ L, s < i) ∧ nx' + 4 ≤ nx ∧
     o (0, 1) = some (.row ⟨27, 1, (0, 1), false, true, [.sl i (cI N), .sl i (cB A)]⟩) ∧ o (0, 2) = some (.row ⟨27, 1, (0, 2), false, true, [.nil, .nil]⟩) ∧ o (nx' + 1, 8) = some (.row ⟨27, 1, (nx' + 1, 8), false, true, [vN, vA]⟩) ∧
     o (1, 23) = some (.row ⟨66, 1, (1, 23), false, true, [.sl i (cI N), .sl i (cB A), .ref (b, 15) (b, 15) 0 i]⟩) ∧ o (b, 15) = some (.row ⟨3, 1, (b, 15), false, true, cI (nL x)⟩) ∧
     o (nx' + 1 + 1, 46) = some (.map (G6 cl 0 L)) ∧ o (nx' + 1 + 1 + 1, 54) = some (.row ⟨3, 1, g, false, true, cI (nL L)⟩) ∧ HS 54 5 110 o nx vN j (cI (nL R)) ∧ HS 4 1 122 o nx vA j (cB (bM2 A (L.take j))) ∧
     a 1 = .ptr (0, 1) (0, 1) 0 ∧ a 2 = .ptr (0, 2) (0, 2) 0 ∧ a 3 = ai1 ∧ a 8 = .ptr (nx' + 1, 8) (nx' + 1, 8) 0 ∧ a 9 = .mp (nx' + 1 + 1, 46) ∧ a 10 = .ref (nx' + 1 + 1 + 1, 54) g 0 L.length ∧ a 11 = .int .i64 j) (i + 2) (by omega)
    ⟨i + 2, 0, [0], [], (nx' + 1 + 1 + 1, 54), .nil, .nil, hrun, rfl, by simp, by simp, aq4 _ 0, rfl, fun s hs => (by rw [List.mem_singleton.1 hs]; omega), by omega, ?_, ?_, ?_, ?_, ?_, ?_, ?_, HS.nil, HS.nil, ?_, ?_, ?_, ?_, ?_, ?_, ?_⟩ ?_
   ·simp (disch := omega) only [go_sem, o1']
   ·simp (disch := omega) only [go_sem, o2']
   ·simp (disch := omega) only [go_sem]
   ·simp (disch := omega) only [go_sem, o23']
   ·simp (disch := omega) only [go_sem, o15]
   ·simp (disch := omega) only [go_sem]
    rw [hcla]
    rfl
   ·simp (disch := omega) only [go_sem]
    rfl
   ·simp (disch := omega) only [go_sem, h1]
   ·simp (disch := omega) only [go_sem, h2]
   ·simp (disch := omega) only [go_sem, h3]
   ·simp (disch := omega) only [go_sem]
   ·simp (disch := omega) only [go_sem]
   ·simp (disch := omega) only [go_sem]
   ·simp (disch := omega) only [go_sem]
   clear hrun o1' o2' o23' o15 h1 h2 h3
   rintro mm a o nx ⟨r, j, L, R, g, vN, vA, hG, rfl, hj, hL1, hD, hRl, hLn, hnx4, ho1, ho2, ho8, ho23, ho15, ho46, ho54, hvN, hvA, h1, h2, h3, h8, h9, h10, h11⟩
   obtain ⟨r', rfl, hG'⟩ := bH4 hG
   clear hG
   by_cases hlt : j < L.length
   ·rcases hG' with ⟨hx, _⟩ | ⟨y, hx, hG⟩
    ·have := List.getElem?_eq_none_iff.1 hx; omega
    have hyn := hLn y (List.mem_of_getElem? hx)
    have hpre := fun m => (aB4 (nx := R3 N) (x := y) hD m)
    have hall := fun m (hm : m ≤ 5) => aB5 (cl := cl) (nx := R3 N) (x := y) (p := fun s => s < i) hLn m (fun j hj => by rw [← hA]; exact hO.next (by omega) (by omega))
    have hLc : L.length ≤ i := ac7 hcl hD
    obtain ⟨row, hrw', hrow, htl, hok, htt, hl5⟩ := aI8 hN hyn
    have q1 := be5 (s := 1) hlt
    rw [D0 hx] at q1
    simp (disch := omega) only [go_sem, bx3, h1, h2, h3, h8, h9, h10, h11, ho1, ho54, q1, hrw', htl, hok, htt, hl5]
    clear q1
    refine u2 (fun mm a o' nx'' => ∃ (m : Nat) (g' : Tag), m ≤ 5 ∧ mm = 5 - m ∧ nx + 3 ≤ nx'' ∧ Frz [1, 2, 8, 23, 15, 110, 122] nx o o' ∧
     o' (nx' + 1 + 1, 46) = some (.map (G6 cl 0 (M4 cl (R3 N) y m L).2)) ∧ o' (nx' + 1 + 1 + 1, 54) = some (.row ⟨3, 1, g', false, true, cI (nL (M4 cl (R3 N) y m L).2)⟩) ∧
     o' (nx + 1, 12) = some (.row ⟨54, 1, (nx + 1, 12), false, true, cI (nL (M4 cl (R3 N) y m L).1 ++ List.replicate (5 - m) 0)⟩) ∧
     a 1 = .ptr (0, 1) (0, 1) 0 ∧ a 2 = .ptr (0, 2) (0, 2) 0 ∧ a 3 = ai1 ∧ a 8 = .ptr (nx' + 1, 8) (nx' + 1, 8) 0 ∧ a 9 = .mp (nx' + 1 + 1, 46) ∧ a 10 = .ref (nx' + 1 + 1 + 1, 54) g' 0 (M4 cl (R3 N) y m L).2.length ∧ a 11 = .int .i64 j ∧ a 12 = .ptr (nx + 1, 12) (nx + 1, 12) 0 ∧ a 68 = .agg row ∧ a 69 = .int .i64 m) 5 (by omega)
     ⟨0, g, by omega, by omega, by omega, (Frz.refl _ _ _).upd (.inl (by omega)), by rw [D8 (by omega)]; exact ho46, by rw [D8 (by omega)]; exact ho54, f8 _ _ _, by simp (disch := omega) only [go_sem, h1], by simp (disch := omega) only [go_sem, h2], by simp (disch := omega) only [go_sem, h3], by simp (disch := omega) only [go_sem, h8], by simp (disch := omega) only [go_sem, h9], by simp (disch := omega) only [go_sem, h10]; rfl, by simp (disch := omega) only [go_sem, h11], by simp (disch := omega) only [go_sem], by simp (disch := omega) only [go_sem], by simp (disch := omega) only [go_sem]⟩ ?_
    clear h1 h2 h3 h8 h9 h10 h11 ho46 ho54
    rintro mm a o' nx'' ⟨m, g', hm, rfl, hnx'', hkp, ho46, ho54, ho12, h1, h2, h3, h8, h9, h10, h11, h12, h68, h69⟩
    have ho1' := (hkp 0 1 (by omega) (by decide)).trans ho1
    have ho2' := (hkp 0 2 (by omega) (by decide)).trans ho2
    have ho8' := (hkp (nx' + 1) 8 (by omega) (by decide)).trans ho8
    have ho23' := (hkp 1 23 (by omega) (by decide)).trans ho23
    have ho15' := (hkp b 15 (by omega) (by decide)).trans ho15
    obtain ⟨hD', hpr, hRl', _⟩ := hpre m
    have hx' := hpr j y hx
    have hLn' := hall m hm
    have hLc' := ac7 hcl hD'
    by_cases hm5 : m < 5
    ·have hsucc : M4 cl (R3 N) y (m + 1) L = ((M4 cl (R3 N) y m L).1 ++ [(aI6 cl (M4 cl (R3 N) y m L).2 (R3 N y m)).1], (aI6 cl (M4 cl (R3 N) y m L).2 (R3 N y m)).2) := rfl
     have hent := hO.e (y * 5 + m) (by omega)
     have hto : N.getD (y * 5 + m) 0 = ((R3 N y m : Nat) : Int) := by unfold R3; omega
     have hton : R3 N y m < i := by rw [← hA]; exact hO.next (by omega) hm5
     have q2 := hrow m hm5
     rw [hto] at q2
     generalize R3 N y m = to at *
     generalize (M4 cl (R3 N) y m L).1 = R' at *
     generalize (M4 cl (R3 N) y m L).2 = L' at *
     have q3 := be5 (l := x) (i := to) (s := 1) (by omega)
     rw [hcla] at q3
     have hfd := ag0 cl (cl to) L' 0
     have hset := fun k => aP6 R' 5 m k hRl' hm5
     have hl12 : (cI (nL R' ++ List.replicate (5 - m) 0)).length = 5 := by rw [l5, List.length_append, A5, List.length_replicate]; omega
     unfold aI6 at hsucc
     cases hfi : L'.findIdx? (fun s => cl s == cl to) with
     | some k =>
      rw [hfi] at hfd hsucc
      dsimp only at hsucc
      simp only [Option.map_some, Nat.zero_add] at hfd
      simp (disch := omega) only [go_sem, bx3, h1, h2, h3, h8, h9, h10, h11, h12, h68, h69, ho23', ho15', ho46, ho12, q2, q3, hfd, hset, hl12]
      exact ⟨5 - (m + 1), by omega, m + 1, g', by omega, rfl, by omega, hkp.upd (.inl (by omega)), by rw [hsucc], by rw [hsucc]; exact ho54, by rw [hsucc], by rw [hsucc], rfl⟩
     | none =>
      have hmn := bY9 hfi
      rw [hfi] at hfd hsucc
      dsimp only at hsucc
      simp only [Option.map_none] at hfd
      have hup : ∀ (o : Ob) (nx : Nat), bA4 (nx' + 1 + 1, 46) (.int .i64 (cl to : Nat)) (.int .i64 (L'.length : Nat)) o nx (G6 cl 0 L') = some ⟨upd o (nx' + 1 + 1, 46) (.map (G6 cl 0 (L' ++ [to]))), nx⟩ := fun o nx => by rw [aM7 hfd, hmn]
      have hkl : (cI (nL L')).take L'.length = cI (nL L') := j0 (by rw [l5, A5])
      simp (disch := omega) only [go_sem, bx3, h1, h2, h3, h8, h9, h10, h11, h12, h68, h69, ho23', ho15', ho46, ho54, ho12, q2, q3, hfd, hset, hl12, hup, hkl, A5]
      exact ⟨5 - (m + 1), by omega, m + 1, (nx'' + 1 + 1 + 1 + 1 + 1 + 1, 101), by omega, rfl, by omega, (((hkp.upd (.inr (by decide))).upd (.inr (by decide))).upd (.inr (by decide))).upd (.inl (by omega)), by rw [hsucc], by rw [hsucc]; simp [nL, cI], by rw [hsucc], by rw [hsucc]; simp, rfl⟩
    ·have hme : m = 5 := by omega
     subst hme
     have hLi : bM2 A ((M4 cl (R3 N) y 5 L).2.take (j + 1)) = bM2 A (L.take j) ++ [A.getD y false] := by
      rw [List.take_add_one, hx']
      have : (M4 cl (R3 N) y 5 L).2.take j = L.take j := by
       refine List.ext_getElem? fun k => ?_
       rw [List.getElem?_take, List.getElem?_take]
       by_cases hk : k < j
       ·rw [if_pos hk, if_pos hk, hpr k _ (List.getElem?_eq_getElem (show k < L.length by omega)), List.getElem?_eq_getElem (show k < L.length by omega)]
       ·rw [if_neg hk, if_neg hk]
      rw [this]
      simp
     have hltL : j < (M4 cl (R3 N) y 5 L).2.length := (List.getElem?_eq_some_iff.1 hx').1
     generalize (M4 cl (R3 N) y 5 L).1 = R' at *
     generalize (M4 cl (R3 N) y 5 L).2 = L' at *
     have q1 := be5 (s := 1) hltL
     rw [D0 hx'] at q1
     have q2 := av4 (l := A) (i := y) (s := 1) (by omega)
     have hvN' := hvN.keep (fun j hj => hkp j 110 hj (by decide)) (show nx ≤ nx'' by omega)
     have hvA' := hvA.keep (fun j hj => hkp j 122 hj (by decide)) (show nx ≤ nx'' by omega)
     rw [Nat.sub_self, List.replicate_zero, List.append_nil] at ho12
     have hl6 : (cI (nL R')).length = 5 := by rw [l5, A5, hRl']
     have htk5 : (cI (nL R')).take 5 = cI (nL R') := j0 hl6
     have hok5 := as2 (nL R')
     obtain ⟨j8, hj8, hap8⟩ := hvN'.app (nx'' + 1) 40 1 (cI (nL R')) (by omega) (by rw [hl6]) hok5 (by simp only [X4]; omega)
     obtain ⟨j9, hj9, hap9⟩ := hvA'.app (nx'' + 1) 1 1 [.bool (A.getD y false)] (by omega) rfl rfl (by simp only [X4]; omega)
     have hRR : cI (nL (R ++ R')) = cI (nL R) ++ cI (nL R') := by rw [cs0, av2]
     have hokN := hvN'.ok
     have hokA := hvA'.ok
     have htN := hvN'.tagAll
     have htA := hvA'.tagAll
     have hnN := hvN'.ninOf
     have hnA := hvA'.ninOf
     have hlR : (cI (nL R)).length = j * 5 := by rw [l5, A5, hRl]
     have hlAc : (cB (bM2 A (L.take j))).length = j * 1 := by rw [F4, List.length_map, List.length_take]; omega
     simp (disch := first | omega | (intro _; simp (disch := omega) only [go_sem, bx3, h1, h2, h3, h8, h9, h10, h11, h12, h68, h69, ho1', ho8', ho12, ho54, q1, q2, hl6, htk5, hok5, hap8, hap9, hokN, hokA])) only [go_sem, bx3, h1, h2, h3, h8, h9, h10, h11, h12, h68, h69, ho1', ho8', ho12, ho54, q1, q2, hl6, htk5, hok5, hap8, hap9, hokN, hokA]
     refine ⟨?_, r', by omega, r', j + 1, L', R ++ R', g', _, _, hG, rfl, by omega, by omega, hD', by rw [List.length_append, hRl, hRl']; omega, hLn', by omega, ho2', rfl, ho23', ho15', ho46, rfl, ?_, ?_, rfl, rfl⟩
     ·rcases hvN' with ⟨rfl, _, _⟩ | ⟨q, g2, rfl, _, _, _⟩ <;> rcases hvA' with ⟨rfl, _, _⟩ | ⟨q', g2', rfl, _, _, _⟩ <;> simp (disch := omega) only [go_sem]
     ·rw [hRR]
      exact HS.grown (m := 1) (by omega) (by simp [d6]) hlR (by rw [hl6])
     ·rw [hLi, aG1]
      exact HS.grown (m := 1) (new := [.bool (A.getD y false)]) (by omega) (by simp [d6]) hlAc rfl
   ·rcases hG' with ⟨hx, hP⟩ | ⟨y, hx, _⟩
    ·subst hP
     have hie : j = L.length := by omega
     subst hie
     rw [List.take_length] at hvA
     have hlc := ac7 hcl hD
     have hc5 := cQ8 (n := L.length) (N := nL R) (by omega) (by omega) (by rw [A5]; omega)
     have hcb := cQ9 (n := L.length) (A := bM2 A L) (by omega) (by omega) (by simp)
     have e1 : ∀ o'' : Ob, (∀ i, o'' (i, 110) = o (i, 110)) → view o'' 1012 vN = .sl L.length (cI (nL R)) := fun o'' h => by rw [(hvN.keep (fun i _ => h i) (Nat.le_refl _)).view 1011, T3]
     have e2 : ∀ o'' : Ob, (∀ i, o'' (i, 122) = o (i, 122)) → view o'' 1012 vA = .sl L.length (cB (bM2 A L)) := fun o'' h => by rw [(hvA.keep (fun i _ => h i) (Nat.le_refl _)).view 1011, bR9]
     have e3 := hvN.ok
     have e4 := hvA.ok
     have e5 := fun i j h => hvN.nin 1011 (aM6 o 1011 (nL R)) (i := i) (j := j) h
     have e6 : ∀ (o'' : Ob) (i j : Nat), (∀ i, o'' (i, 122) = o (i, 122)) → j ≠ 122 → nin (i, j) (b9 o'' 1012 vA) = true := fun o'' i j ho hj => (hvA.keep (fun i _ => ho i) (Nat.le_refl _)).nin 1011 (bS0 o'' 1011 (bM2 A L)) hj
     have e7 : ∀ p : Tag → Bool, (∀ i, p (i, 110) = true) → (b9 o 1012 vN).all p = true := fun p hp => List.all_eq_true.2 fun t ht => by
      have := hvN.tags 1011 (aM6 o 1011 (nL R)) t ht
      obtain ⟨i, j⟩ := t
      dsimp only at this
      subst this
      exact hp i
     simp (disch := first | omega | (intro _; simp (disch := omega) only [go_sem, bx3, h1, h2, h3, h8, h9, h10, h11, ho2, ho8, ho54, e1, e2, e3, e4, e5, e6, e7, hc5, hcb, bu6, List.append_nil])) only [go_sem, bx3, h1, h2, h3, h8, h9, h10, h11, ho2, ho8, ho54, e1, e2, e3, e4, e5, e6, e7, hc5, hcb, bu6, List.append_nil]
    ·have := (List.getElem?_eq_some_iff.1 hx).1; omega
  ·rw [if_neg he] at hs'
   have he' : ¬ ((F.length : Nat) : Int) = (k : Int) := by omega
   simp (disch := omega) only [go_sem, h1, h2, h3, h6, he']
   exact ⟨r', by omega, r', x, F.length, nx + 1 + 3, 15, _, hs', hl1, rfl, by omega, by decide, rfl, o1', o2', o23', o15⟩
theorem bZ0 {n : Nat} {N : List Int} {A : List Bool} (hw : WfD n N A) : Ok Tryd.prog 16 [ar3 n N A] (ar3 (Z1 N A).length (ar4 N A) (Z1 N A)) := by
 refine m5 (E := EX md0 XMz) (cr := ct4) cu1 bY8 mixed (k := 2005) Tryd.func16 cu2 rfl (T1 (cu3 hw) ?_)
 rintro u a o nx ⟨rfl, h⟩
 refine ⟨.inr rfl, ?_⟩
 simp only [Tryd.f16, ab1, ah5, ah6, ao1]
 cases hl : N4 Tryd.prog 27 (a 2) ⟨o, nx⟩ with
 | none =>
  rw [hl] at h
  cases h
 | some v =>
  rw [hl] at h
  show wO (bj6 (N4 Tryd.prog 27 (a 2) ⟨o, nx⟩) (some [])) _
  rw [hl]
  exact h
theorem bv1 (args r) (h : cF3 args r) : Ok Tryd.prog 16 args r := by obtain ⟨n, N, A, h1, rfl, rfl⟩ := h; exact bZ0 h1
end Go.Proofs.YtpmjpogcaglphaaDoor.A
