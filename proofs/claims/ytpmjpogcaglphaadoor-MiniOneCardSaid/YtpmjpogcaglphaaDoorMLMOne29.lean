/- The program's parting: finer, on what Minimize keeps. -/
import Derived.Test.YtpmjpogcaglphaaDoorMLMOne28
set_option linter.unusedVariables false
set_option linter.unusedSimpArgs false
set_option linter.unnecessarySimpa false
namespace Go.Proofs.YtpmjpogcaglphaaDoor.A
open Go
set_option maxRecDepth 20000
def kL (N : List Int) (c : List Nat) (F : List Nat) : List (List Int) := F.map fun f => nL (v8 N c f)
theorem at9 (N c s) : (v8 N c s).length = 6 := by simp [v8]
theorem bW9 (N c F) : ∀ x ∈ kL N c F, x.length = 6 := fun x hx => by
 obtain ⟨f, _, rfl⟩ := List.mem_map.1 hx
 rw [A1, at9]
theorem bP7 (l : List Int) : flat.flats (cI l) = true := by
 induction l with
 | nil => rfl
 | cons x l ih =>
  show (flat (.int .i64 x) && flat.flats (cI l)) = true
  rw [ih]; rfl
theorem ci7 (N c F) (i : Nat) : bP6 (kL N c F) (nL (v8 N c i)) = match F.findIdx? (fun f => v8 N c f == v8 N c i) with | some k => (k : Int) | none => -1 := by
 have : (kL N c F).findIdx? (fun x => x == nL (v8 N c i)) = F.findIdx? (fun f => v8 N c f == v8 N c i) := by
  rw [kL, List.findIdx?_map]
  congr 1
  funext f
  rw [Bool.eq_iff_iff]
  simp only [Function.comp, beq_iff_eq]
  exact ⟨fun h => bW6 h, fun h => by rw [h]⟩
 rw [bP6, this]
 all_goals (cases F.findIdx? (fun f => v8 N c f == v8 N c i) <;> rfl)
def RKd (args : List AV) (r : AV) : Prop := ∃ (n : Nat) (N : List Int) (A : List Bool) (c : List Nat) (s : Nat), WfD n N A ∧ c.length = n ∧ s < n ∧ args = [.fptr [.sl n (cI N), .sl n (cB A), .sl n (cI (nL c))], .int .i64 s] ∧ r = .agg (cI (nL (v8 N c s)))
theorem cE4 : K5 RKd := by
 rintro args r r' ⟨n, N, A, c, s, _, _, _, rfl, rfl⟩ ⟨n', N', A', c', s', _, _, _, h, rfl⟩
 simp only [List.cons.injEq, AV.fptr.injEq, AV.sl.injEq, AV.int.injEq, true_and, and_true] at h
 obtain ⟨⟨⟨_, h1⟩, _, ⟨_, h2⟩⟩, h3⟩ := h
 rw [K0 h1, bW6 (K0 h2), show s = s' by omega]
theorem cE5 (args r) (h : RKd args r) : Ok Tryd.prog 60 args r := by obtain ⟨n, N, A, c, s, h1, h2, h3, rfl, rfl⟩ := h; exact ci3 h1 h2 h3
def cQ4 (args : List AV) (r : AV) : Prop := ∃ (K : List (List Int)) (y : List Int), (∀ x ∈ K, x.length = 6) ∧ K.length ≤ 100000 ∧ y.length = 6 ∧ args = [.sl K.length (kC K), cQ3 y] ∧ r = .int .i64 (bP6 K y)
theorem ci8 : K5 cQ4 := by
 rintro args r r' ⟨K, y, h1, _, _, rfl, rfl⟩ ⟨K', y', h1', _, _, h, rfl⟩
 simp only [List.cons.injEq, AV.sl.injEq, AV.fn.injEq, AV.fptr.injEq, true_and, and_true] at h
 rw [bW8 h1 h1' h.1.2, K0 h.2]
theorem ci9 (args r) (h : cQ4 args r) : Ok Tryd.prog 61 args r := by obtain ⟨K, y, h1, h2, h3, rfl, rfl⟩ := h; exact ci6 h1 h2 h3
noncomputable def XK : FuncId → List AV → Option AV := p4 [(60, A4 RKd), (61, A4 cQ4)]
theorem dc0 : m9 Tryd.prog XK := f9 (f9 (p7 _) (l9 ci9)) (l9 cE5)
theorem cj0 {n : Nat} {N : List Int} {A : List Bool} (hw : WfD n N A) {c : List Nat} (hc : c.length = n) {s : Nat} (hs : s < n) : XK 60 [.fptr [.sl n (cI N), .sl n (cB A), .sl n (cI (nL c))], .int .i64 s] = some (.agg (cI (nL (v8 N c s)))) := m5 (R := RKd) cE4 ⟨_, _, _, _, _, hw, hc, hs, rfl, rfl⟩
theorem cE6 {K : List (List Int)} {n : Nat} (hn : K.length = n) (hK : ∀ x ∈ K, x.length = 6) (hl : n ≤ 100000) {y : List Int} (hy : y.length = 6) : XK 61 [.sl n (kC K), cQ3 y] = some (.int .i64 (bP6 K y)) := m5 (R := cQ4) ci8 ⟨K, y, hK, by omega, hy, by rw [hn], rfl⟩
theorem cE7 (X) : d9 (EX md0 X) (fun _ => none) 1 Tryd.f39 = true := by kernel_rfl
abbrev bA3 (nx : Nat) (o o' : Ob) : Prop := Kp [43, 23] nx o o'
abbrev al3 : AV := .ptr (1, 23) (1, 23) 0
theorem bi8 (x : List Nat) (n i : Nat) (v : Int) (hx : x.length = i) (hi : i < n) : s6 (cI (nL x ++ List.replicate (n - i) 0)) i [.int .i64 v] = cI (nL x ++ v :: List.replicate (n - (i + 1)) 0) := by
 rw [aW6 _ _ _ (by rw [List.length_append, A1, List.length_replicate]; omega), List.set_append, if_neg (by rw [A1]; omega), A1, hx, Nat.sub_self]
 obtain ⟨d, hd⟩ : ∃ d, n - i = d + 1 := ⟨n - i - 1, by omega⟩
 rw [hd, show n - (i + 1) = d by omega, List.replicate_succ]
 rfl
theorem aL9 (x : List Nat) (l : List Int) (i : Nat) (v w : Int) (hx : x.length = i) : s6 (cI (nL x ++ v :: l)) i [.int .i64 w] = cI (nL x ++ w :: l) := by
 rw [aW6 _ _ _ (by rw [List.length_append, A1, List.length_cons]; omega), List.set_append, if_neg (by rw [A1]; omega), A1, hx, Nat.sub_self]
 rfl
theorem bA4 (x : List Nat) (l : List Int) (i s : Nat) (v : Int) (hx : x.length = i) : L7 false s ((cI (nL x ++ v :: l)).drop i) = some (.int .i64 v) := by
 rw [ak5, List.drop_append, List.drop_eq_nil_of_le (by rw [m4, A1]; omega), m4, A1, hx, Nat.sub_self]
 rfl
set_option maxHeartbeats 4000000 in
theorem bP8 (cr : t8) {o : Ob} {nx : Nat} {n : Nat} {N : List Int} {A : List Bool} (hw : WfD n N A) {c : List Nat} (hc : c.length = n) {q s : Nat} {g : Tag} (hqn : q < nx) (hs : s ∉ [43, 23]) (h2 : 2 ≤ nx)
  (hr : o (1, 23) = some (.row ⟨66, 1, (1, 23), false, true, [.sl n (cI N), .sl n (cB A), .ref (q, s) g 0 n]⟩)) (hq : o (q, s) = some (.row ⟨3, 1, g, false, true, cI (nL c)⟩)) :
  WP (EX md0 XK) cr 2005 (fun _ => none) (Tryd.f39.body.getD .skip) (v7 [al3]) o nx (fun u a o' nx' => u = .ret ∧ a 2 = .int .i64 ((U4 N c n).1.length : Nat) ∧ nx + 4 ≤ nx' ∧
   o' (1, 23) = some (.row ⟨66, 1, (1, 23), false, true, [.sl n (cI N), .sl n (cB A), .ref (nx + 3, 15) (nx + 3, 15) 0 n]⟩) ∧ o' (nx + 3, 15) = some (.row ⟨3, 1, (nx + 3, 15), false, true, cI (nL (U4 N c n).2)⟩) ∧ bA3 nx o o') := by
 have hn := hw.sz
 have hcl : (cI (nL c)).length = n := by rw [m4, A1, hc]
 have hctk : (cI (nL c)).take n = cI (nL c) := f7 hcl
 simp only [Tryd.f39, Option.getD_some]
 simp (disch := omega) only [go_sem, hr, hq]
 refine p9 (fun m a o' nx' => ∃ (i : Nat) (F x : List Nat) (vK : AV), U4 N c i = (F, x) ∧ x.length = i ∧ F.length ≤ i ∧ i ≤ n ∧ m = n - i ∧ nx + 5 ≤ nx' ∧ Kp [43] nx o o' ∧
   o' (nx + 3, 15) = some (.row ⟨3, 1, (nx + 3, 15), false, true, cI (nL x ++ List.replicate (n - i) 0)⟩) ∧ HS 110 6 43 o' nx' vK F.length (kC (kL N c F)) ∧
   a 0 = al3 ∧ a 3 = .fn (.func 60) [al3] [] ∧ a 4 = vK ∧ a 5 = .ref (nx + 3, 15) (nx + 3, 15) 0 n ∧ a 17 = .int .i64 n ∧ a 18 = .int .i64 i) n (by omega)
  ⟨0, [], [], .nil, rfl, rfl, Nat.le_refl _, by omega, by omega, by omega, (Kp.refl _ _ _).upd (.inl (by omega)), by simp [d6, aq8, nL], HS.nil, by simp (disch := omega) only [go_sem], by simp (disch := omega) only [go_sem], by simp (disch := omega) only [go_sem], by simp (disch := omega) only [go_sem], by simp (disch := omega) only [go_sem], by simp (disch := omega) only [go_sem]⟩ ?_
 rintro m a o' nx' ⟨i, F, x, vK, hf, hxl, hFl, hi, rfl, hnx', hkp, ho15, hK, ha0, ha3, ha4, ha5, ha17, ha18⟩
 have hr' := (hkp 1 23 (by omega) (by decide)).trans hr
 have hq' := (hkp q s hqn (fun h => hs (by simp at h; simp [h]))).trans hq
 by_cases hlt : i < n
 ·have hkd := cj0 hw hc hlt
  have hkl : (kL N c F).length = F.length := by simp [kL]
  have hidx := cE6 hkl (bW9 N c F) (by omega) (y := nL (v8 N c i)) (by rw [A1, at9])
  rw [ci7] at hidx
  have hfs : U4 N c (i + 1) = match F.findIdx? (fun f => v8 N c f == v8 N c i) with | some k => (F, x ++ [k]) | none => (F ++ [i], x ++ [F.length]) := by
   rw [U4, hf]
   rfl
  have hkla : kL N c (F ++ [i]) = kL N c F ++ [nL (v8 N c i)] := by simp [kL]
  have hl6 : (cI (nL (v8 N c i))).length = 6 := by rw [m4, A1, at9]
  have ht6 : (cI (nL (v8 N c i))).take 6 = cI (nL (v8 N c i)) := f7 hl6
  have hok6 := av5 (nL (v8 N c i))
  have hvi := fun o d => N0 o d (nL (v8 N c i))
  have hv : ∀ o'' : Ob, (∀ i, o'' (i, 43) = o' (i, 43)) → view o'' 1012 vK = .sl F.length (kC (kL N c F)) := fun o'' h => by
   rw [(hK.keep (fun i _ => h i) (Nat.le_refl _)).view 1011, ci5]
  have hokK := hK.ok
  have hkC1 : kC (kL N c F ++ [nL (v8 N c i)]) = kC (kL N c F) ++ cI (nL (v8 N c i)) := by rw [cD8]; simp [kC]
  have hdz : List.drop 6 [AV.int .i64 0, .int .i64 0, .int .i64 0, .int .i64 0, .int .i64 0, .int .i64 0] = [] := rfl
  have hrl : (cI (nL x ++ List.replicate (n - i) 0)).length = n := by rw [m4, List.length_append, A1, List.length_replicate]; omega
  have hrl2 : ∀ v : Int, (cI (nL x ++ v :: List.replicate (n - (i + 1)) 0)).length = n := fun v => by rw [m4, List.length_append, A1, List.length_cons, List.length_replicate]; omega
  have hset := fun v => bi8 x n i v hxl hlt
  have hset2 := fun v w => aL9 x (List.replicate (n - (i + 1)) 0) i v w hxl
  have hget := fun v => bA4 x (List.replicate (n - (i + 1)) 0) i 1 v hxl
  have hlK : ∀ o'' : Ob, O6 Tryd.prog o'' 108 vK = some (.int .i64 (F.length : Nat)) := fun o'' => by
   rcases hK with ⟨rfl, h0, _⟩ | ⟨i1, g1, rfl, _⟩
   ·rw [h0]; rfl
   ·rfl
  obtain ⟨jK, hjK, hap⟩ := hK.app (nx' + 6) 48 1 (cI (nL (v8 N c i))) (by omega) (by rw [hl6]) hok6 (by simp only [U3]; omega)
  have hkC6 : (kC (kL N c F)).length = F.length * 6 := by rw [aL8 (bW9 N c F), hkl]
  have hfl := bP7 (nL (v8 N c i))
  generalize hkm : nL (v8 N c i) = km at *
  cases hfi : F.findIdx? (fun f => v8 N c f == v8 N c i) with
  | some k =>
   rw [hfi] at hfs hidx
   dsimp only at hfs hidx
   obtain ⟨hkF, _⟩ := List.findIdx?_eq_some_iff_getElem.1 hfi
   simp (disch := first | omega | (intro _; simp only [d6, Nat.reduceEqDiff, if_false])) only [go_sem, ha0, ha3, ha4, ha5, ha17, ha18, hr', hq', ho15, hcl, hctk, hkd, hv, hidx, hl6, ht6, hok6, hdz, List.append_nil, hrl, hrl2, hset, hset2, hget, hvi, hfl]
   exact ⟨n - (i + 1), by omega, i + 1, F, x ++ [k], vK, hfs, by simp [hxl], by omega, by omega, rfl, by omega, ((hkp.upd (.inl (by omega))).upd (.inl (by omega))).upd (.inl (by omega)), by simp [nL], hK.keep (fun i' _ => by simp [d6]) (by omega), rfl, rfl⟩
  | none =>
   rw [hfi] at hfs hidx
   dsimp only at hfs hidx
   simp (disch := first | omega | (intro _; simp only [d6, Nat.reduceEqDiff, if_false])) only [go_sem, ha0, ha3, ha4, ha5, ha17, ha18, hr', hq', ho15, hcl, hctk, hkd, hv, hidx, hl6, ht6, hok6, hdz, List.append_nil, hrl, hrl2, hset, hset2, hget, hvi, hfl, hlK, hap]
   refine ⟨n - (i + 1), by omega, i + 1, F ++ [i], x ++ [F.length], _, hfs, by simp [hxl], by simp; omega, by omega, rfl, by omega, (((((hkp.upd (.inl (by omega))).upd (.inl (by omega))).upd (.inl (by omega))).upd (.inl (by omega))).upd (.inl (by omega))).upd (.inr (by decide)), by simp [nL], ?_, rfl, rfl⟩
   rw [hkla, hkC1, List.length_append]
   exact HS.grown (m := 1) (by omega) (by simp [d6]) hkC6 (by rw [hl6])
 ·have hie : i = n := by omega
  subst hie
  rw [hf]
  rw [Nat.sub_self, List.replicate_zero, List.append_nil] at ho15
  have hlK : ∀ o'' : Ob, O6 Tryd.prog o'' 108 vK = some (.int .i64 (F.length : Nat)) := fun o'' => by
   rcases hK with ⟨rfl, h0, _⟩ | ⟨i1, g1, rfl, _⟩
   ·rw [h0]; rfl
   ·rfl
  simp (disch := omega) only [go_sem, ha0, ha3, ha4, ha5, ha17, ha18, hr', hlK]
  exact ⟨by omega, ho15, (hkp.more (fun k hk h => hk (by simp at h; simp [h]))).upd (.inr (by decide))⟩
noncomputable def cE8 : t8 := s7 [(39, fun args H => if args.length = 1 then av2 (EX md0 XK) noR 2005 (fun _ => none) Tryd.f39 args H else none)]
theorem cj1 : w7 Tryd.prog cE8 ∧ Up cE8 := by
 refine p5 (I5 _) fun args H v H' h => ?_
 split at h
 ·rename_i hn
  exact M7 (E := EX md0 XK) dc0 (m6 Tryd.prog).1 (m6 Tryd.prog).2 mixed Tryd.func39 (by rw [hn]; exact cE7 XK) h
 ·cases h
theorem bi9 {o : Ob} {nx : Nat} {n : Nat} {N : List Int} {A : List Bool} (hw : WfD n N A) {c : List Nat} (hc : c.length = n) {q s : Nat} {g : Tag} (hqn : q < nx) (hs : s ∉ [43, 23]) (h2 : 2 ≤ nx)
  (hr : o (1, 23) = some (.row ⟨66, 1, (1, 23), false, true, [.sl n (cI N), .sl n (cB A), .ref (q, s) g 0 n]⟩)) (hq : o (q, s) = some (.row ⟨3, 1, g, false, true, cI (nL c)⟩)) {K : AV × AH → Prop}
  (hK : ∀ o' nx', nx + 4 ≤ nx' → o' (1, 23) = some (.row ⟨66, 1, (1, 23), false, true, [.sl n (cI N), .sl n (cB A), .ref (nx + 3, 15) (nx + 3, 15) 0 n]⟩) → o' (nx + 3, 15) = some (.row ⟨3, 1, (nx + 3, 15), false, true, cI (nL (U4 N c n).2)⟩) → bA3 nx o o' → K (.int .i64 ((U4 N c n).1.length : Nat), ⟨o', nx'⟩)) :
  wO (Option.map (fun p => t6 false p.1 p.2) (cE8 39 [al3] ⟨o, nx⟩)) K := by
 refine bi6 (E := EX md0 XK) (fn := Tryd.f39) rfl (V5 (bP8 noR hw hc hqn hs h2 hr hq) ?_)
 rintro u a o' nx' ⟨rfl, h1, h2, h3, h4, h5⟩
 refine ⟨.inr rfl, ?_⟩
 simp only [Tryd.f39]
 simp (disch := omega) only [go_sem, h1]
 exact hK o' nx' h2 h3 h4 h5
set_option maxRecDepth 20000
theorem bX0 {t : TypeId} (h : bc7 (Tryd.prog.underlying t) = true) {n : Nat} (hn : 0 < n) (cs : List AV) : J8 Tryd.prog .eql t (.sl n cs) .nil = some (.bool false) := by
 unfold J8
 simp only [h, if_true, bX3, if_pos hn]
 rfl
theorem cE9 (X) : d9 (EX md0 X) (fun _ => none) 1 Tryd.f40 = true := by kernel_rfl
theorem cF0 (X) : d9 (EX md0 X) (fun _ => none) 1 Tryd.f41 = true := by kernel_rfl
theorem bA5 {n : Nat} {N : List Int} (hn : 0 < n) (hm : n ≤ 100000) (hl : N.length = 5 * n) : Ok Tryd.prog 40 [.sl n (cI N)] (.sl n (cI N)) := by
 refine k0 (E := EX md0 (fun _ _ => none)) (cr := noR) (p7 _) (m6 _) mixed (k := 0) Tryd.func40 (cE9 _) rfl ?_
 have h0 := bX0 (t := 24) (by kernel_rfl) hn (cI N)
 have h1 : (cI N).length = n * 5 := by rw [m4, hl]; omega
 have h2 : (cI N).take (n * 5) = cI N := f7 h1
 simp only [Tryd.f40, Option.getD_some]
 simp (disch := omega) only [go_sem, h0, h1, h2, Nat.zero_mul, List.take_zero, List.nil_append, Nat.zero_add, List.drop_zero]
theorem bA6 {A : List Bool} (hn : 0 < A.length) (hm : A.length ≤ 100000) : Ok Tryd.prog 41 [.sl A.length (cB A)] (.sl A.length (cB A)) := by
 refine k0 (E := EX md0 (fun _ _ => none)) (cr := noR) (p7 _) (m6 _) mixed (k := 0) Tryd.func41 (cF0 _) rfl ?_
 have h0 := bX0 (t := 25) (by kernel_rfl) hn (cB A)
 have h1 : (cB A).length = A.length * 1 := by rw [z8]; omega
 have h2 : (cB A).take (A.length * 1) = cB A := f7 h1
 have h3 : (cB A).take A.length = cB A := f7 (z8 A)
 simp only [Tryd.f41, Option.getD_some]
 simp (disch := omega) only [go_sem, h0, h1, h2, h3, Nat.zero_mul, List.take_zero, List.nil_append, Nat.zero_add, List.drop_zero]
def RC5 (args : List AV) (r : AV) : Prop := ∃ (n : Nat) (N : List Int), 0 < n ∧ n ≤ 100000 ∧ N.length = 5 * n ∧ args = [.sl n (cI N)] ∧ r = .sl n (cI N)
theorem cF1 : K5 RC5 := by
 rintro args r r' ⟨n, N, _, _, _, rfl, rfl⟩ ⟨n', N', _, _, _, h, rfl⟩
 simp only [List.cons.injEq, and_true] at h
 exact h
theorem cF2 (args r) (h : RC5 args r) : Ok Tryd.prog 40 args r := by obtain ⟨n, N, h1, h2, h3, rfl, rfl⟩ := h; exact bA5 h1 h2 h3
def RCb (args : List AV) (r : AV) : Prop := ∃ A : List Bool, 0 < A.length ∧ A.length ≤ 100000 ∧ args = [.sl A.length (cB A)] ∧ r = .sl A.length (cB A)
theorem cF3 : K5 RCb := by
 rintro args r r' ⟨A, _, _, rfl, rfl⟩ ⟨A', _, _, h, rfl⟩
 simp only [List.cons.injEq, and_true] at h
 exact h
theorem cF4 (args r) (h : RCb args r) : Ok Tryd.prog 41 args r := by obtain ⟨A, h1, h2, rfl, rfl⟩ := h; exact bA6 h1 h2
noncomputable def XMz : FuncId → List AV → Option AV := p4 [(40, A4 RC5), (41, A4 RCb)]
theorem cF5 : m9 Tryd.prog XMz := f9 (f9 (p7 _) (l9 cF4)) (l9 cF2)
theorem dc1 {n : Nat} {N : List Int} (hn : 0 < n) (hm : n ≤ 100000) (hl : N.length = 5 * n) : XMz 40 [.sl n (cI N)] = some (.sl n (cI N)) := m5 (R := RC5) cF1 ⟨_, _, hn, hm, hl, rfl, rfl⟩
theorem dc2 {n : Nat} {A : List Bool} (hn : 0 < n) (hm : n ≤ 100000) (hl : A.length = n) : XMz 41 [.sl n (cB A)] = some (.sl n (cB A)) := by
 subst hl
 exact m5 (R := RCb) cF3 ⟨_, hn, hm, rfl, rfl⟩
def I1 (cl : Nat → Nat) : Nat → List Nat → List (AV × AV)
 | _, [] => []
 | j, s :: l => (.int .i64 (cl s : Nat), .int .i64 (j : Nat)) :: I1 cl (j + 1) l
theorem al4 (cl : Nat → Nat) (to : Nat) : ∀ (L : List Nat) (j : Nat), I1 cl j (L ++ [to]) = I1 cl j L ++ [(.int .i64 (cl to : Nat), .int .i64 (j + L.length : Nat))]
 | [], j => rfl
 | s :: l, j => by
  rw [List.cons_append, I1, I1, al4 cl to l (j + 1), List.cons_append, List.length_cons, show j + 1 + l.length = j + (l.length + 1) by omega]
theorem ai6 (cl : Nat → Nat) (k : Nat) : ∀ (L : List Nat) (j : Nat), L9 (.int .i64 (k : Nat)) (I1 cl j L) = some ((L.findIdx? fun s => cl s == k).map fun i => .int .i64 (j + i : Nat))
 | [], j => rfl
 | s :: l, j => by
  have ih := ai6 cl k l (j + 1)
  rw [I1, L9, ih, List.findIdx?_cons]
  have he : P7 (.int .i64 (k : Nat)) (.int .i64 (cl s : Nat)) = some (cl s == k) := by
   simp only [P7, if_true]
   congr 1
   rw [Bool.eq_iff_iff]
   simp only [beq_iff_eq]
   omega
  rw [he]
  by_cases h : cl s == k
  ·rw [h]; simp
  ·have h : (cl s == k) = false := by simpa using h
   rw [h]
   cases List.findIdx? (fun s => cl s == k) l with
   | none => rfl
   | some i => simp; omega
theorem cj2 {cl : Nat → Nat} {L : List Nat} {to : Nat} (h : L.findIdx? (fun s => cl s == cl to) = none) : aF5 (.int .i64 (cl to : Nat)) (.int .i64 (L.length : Nat)) (I1 cl 0 L) = I1 cl 0 (L ++ [to]) := by
 have hf := ai6 cl (cl to) L 0
 rw [h] at hf
 rw [(R0 hf).2, al4, Nat.zero_add]
def bE7 : Nat → Option (List (Nat × Nat))
 | 1 => some [(0, 4)]
 | 29 => some [(1, 3), (3, 6), (4, 6), (3, 8), (4, 8), (3, 12), (4, 12), (3, 14), (4, 14), (1, 15), (2, 15), (3, 15), (4, 15), (6, 15)]
 | 30 => some [(2, 4)]
 | _ => none
theorem cF6 : d9 (EX md0 XMz) bE7 1 Tryd.f16 = true := by kernel_rfl
set_option maxHeartbeats 8000000 in
theorem cF7 {n : Nat} {N : List Int} {A : List Bool} (hw : WfD n N A) :
  WP (EX md0 XMz) cE8 2005 bE7 (Tryd.f16.body.getD .skip) (v7 [Z4 n N A]) (fun _ => none) 0 (fun u a o nx => u = .ret ∧ view o p6 ((P6 Tryd.prog 27 (a 2) ⟨o, nx⟩).getD .und) = Z4 (O3 N A).length (aa1 N A) (O3 N A)) := by
 have hn := hw.sz
 have hN := hw.l
 have hA := hw.a
 have hO := hw.okD
 have hrun := (al2 hO).run
 have hcl := by6 hO
 have hclen := ci1 hO
 have hcls := (ae9 hO).1
 have hc0 := hcl 0
 have hres : Z4 (O3 N A).length (aa1 N A) (O3 N A) = .agg [.sl (Q5 N A).1.length (cI (nL (Q5 N A).2)), .sl (Q5 N A).1.length (cB (bW7 A (Q5 N A).1))] := by
  rw [Z4, slB, af0]; rfl
 rw [hres]
 generalize Q5 N A = P at *
 generalize R6 N A = c at *
 rw [hA] at hrun hcl hclen hc0 hcls
 simp only [Tryd.f16, Option.getD_some]
 rw [Z4, slB, hA]
 simp (disch := omega) only [go_sem, bE7]
 refine p9 (fun m a o nx => ∃ i : Nat, i ≤ n ∧ m = n - i ∧ 2 ≤ nx ∧ a 1 = .ptr (0, 1) (0, 1) 0 ∧ a 2 = .ptr (0, 2) (0, 2) 0 ∧ a 3 = al3 ∧ a 25 = .sl n (cB A) ∧ a 26 = .int .i64 n ∧ a 27 = .int .i64 i ∧ o (0, 1) = some (.row ⟨27, 1, (0, 1), false, true, [.sl n (cI N), .sl n (cB A)]⟩) ∧ o (0, 2) = some (.row ⟨27, 1, (0, 2), false, true, [.nil, .nil]⟩) ∧ o (1, 23) = some (.row ⟨66, 1, (1, 23), false, true, [.sl n (cI N), .sl n (cB A), .ref (1, 21) (1, 21) 0 n]⟩) ∧ o (1, 21) = some (.row ⟨3, 1, (1, 21), false, true, cI (nL (at6 (A.take i)) ++ List.replicate (n - i) 0)⟩)) n (by omega)
  ⟨0, by omega, by omega, by omega, by simp (disch := omega) only [go_sem], by simp (disch := omega) only [go_sem], by simp (disch := omega) only [go_sem], by simp (disch := omega) only [go_sem], by simp (disch := omega) only [go_sem], by simp (disch := omega) only [go_sem], by simp [d6], by simp [d6], by simp [d6], by simp [d6, aq8, nL, at6]⟩ ?_
 rintro m a o nx ⟨i, hi, rfl, hnx, h1, h2, h3, h25, h26, h27, o1, o2, o23, o21⟩
 by_cases hlt : i < n
 ·have hat := R3 (l := A) (i := i) (s := 1) (by omega)
  have hsn := bA1 (A := A) (i := i) (by omega)
  have hxl : (at6 (A.take i)).length = i := by simp [at6]; omega
  have hset1 : s6 (cI (nL (at6 (A.take i)) ++ List.replicate (n - i) 0)) i [.int .i64 1] = cI (nL (at6 (A.take i) ++ [1]) ++ List.replicate (n - (i + 1)) 0) := aT0 _ n i 1 hxl hlt
  have hzero := bP3 (at6 (A.take i)) n i hlt
  have hrl : (cI (nL (at6 (A.take i)) ++ List.replicate (n - i) 0)).length = n := by rw [m4, List.length_append, A1, List.length_replicate]; omega
  generalize A.getD i false = b at hat hsn
  cases b
  ·rw [if_neg (by decide)] at hsn
   rw [← hsn] at hzero
   simp (disch := omega) only [go_sem, h1, h2, h3, h25, h26, h27, o1, o2, o23, o21, hat]
   exact ⟨_, by omega, i + 1, by omega, rfl, rfl, by rw [hzero]⟩
  ·rw [if_pos rfl] at hsn
   rw [← hsn] at hset1
   simp (disch := omega) only [go_sem, h1, h2, h3, h25, h26, h27, o1, o2, o23, o21, hat, hset1, hrl]
   exact ⟨_, by omega, i + 1, by omega, rfl, rfl, rfl⟩
 ·have hie : i = n := by omega
  subst hie
  rw [Nat.sub_self, List.replicate_zero, List.append_nil, List.take_of_length_le (by omega)] at o21
  have hcl0 : (at6 A).length = i := by simp [at6]; omega
  simp (disch := omega) only [go_sem, h1, h2, h3, h25, h26, h27]
  refine p9 (fun m a o nx => ∃ (r : Nat) (c' : List Nat) (k q s : Nat) (g : Tag), am0 N i r c' k = some c ∧ c'.length = i ∧ m = r ∧ 2 ≤ nx ∧ q < nx ∧ s ∉ [43, 23] ∧ a 1 = .ptr (0, 1) (0, 1) 0 ∧ a 2 = .ptr (0, 2) (0, 2) 0 ∧ a 3 = al3 ∧ a 6 = .int .i64 k ∧ o (0, 1) = some (.row ⟨27, 1, (0, 1), false, true, [.sl i (cI N), .sl i (cB A)]⟩) ∧ o (0, 2) = some (.row ⟨27, 1, (0, 2), false, true, [.nil, .nil]⟩) ∧ o (1, 23) = some (.row ⟨66, 1, (1, 23), false, true, [.sl i (cI N), .sl i (cB A), .ref (q, s) g 0 i]⟩) ∧ o (q, s) = some (.row ⟨3, 1, g, false, true, cI (nL c')⟩)) (i + 2) (by omega)
   ⟨i + 2, at6 A, 0, 1, 21, (1, 21), hcls, hcl0, rfl, by omega, by omega, by decide, by simp (disch := omega) only [go_sem, h1], by simp (disch := omega) only [go_sem, h2], by simp (disch := omega) only [go_sem, h3], by simp (disch := omega) only [go_sem], o1, o2, o23, o21⟩ ?_
  clear h1 h2 h3 h25 h26 h27 o1 o2 o23 o21 hcls hcl0 hnx
  rintro m a o nx ⟨r, c', k, q, s, g, hp, hcl', rfl, hnx, hqn, hs, h1, h2, h3, h6, o1, o2, o23, oq⟩
  obtain ⟨r', rfl, hs'⟩ := bi5 hp
  simp (disch := omega) only [go_sem, h1, h2, h3, h6]
  refine bi9 hw hcl' (show q < nx + 1 by omega) hs (by omega) o23 oq fun o' nx' hnx' o23' o15 hkp => ?_
  have o1' := (hkp 0 1 (by omega) (by decide)).trans o1
  have o2' := (hkp 0 2 (by omega) (by decide)).trans o2
  have hl1 := bP2 N c' i
  clear o1 o2 o23 oq hkp hp
  generalize U4 N c' i = FX at *
  obtain ⟨F, x⟩ := FX
  dsimp only at hs' hl1 o15
  by_cases he : F.length = k
  ·rw [if_pos he] at hs'
   subst hs'
   have he' : ((F.length : Nat) : Int) = (k : Int) := by rw [he]
   have q0 := bi4 (l := x) (i := 0) (s := 1) (by omega)
   rw [List.drop_zero] at q0
   have hup0 : ∀ (tg : Tag) (o : Ob) (nx : Nat) (k : Int), bH7 tg (.int .i64 k) (.int .i64 0) o nx [] = some ⟨upd o tg (.map [(.int .i64 k, .int .i64 0)]), nx⟩ := fun tg o nx k => aQ0 rfl tg _ o nx
   simp (disch := omega) only [go_sem, h1, h2, h3, h6, he', o23', o15, q0, hup0]
   clear q0 hup0 he' h6
   obtain ⟨b, hb⟩ : ∃ b, b = nx + 1 + 3 := ⟨_, rfl⟩
   rw [← hb] at o23' o15
   have hbn : b < nx' + 1 := by omega
   have hcl2 := hcl
   obtain ⟨cl, hcle⟩ : ∃ cl : Nat → Nat, cl = fun s => x.getD s 0 := ⟨_, rfl⟩
   have hcla : ∀ s, x.getD s 0 = cl s := fun s => by rw [hcle]
   rw [← hcle] at hrun
   replace hcl : ∀ s, cl s < i := fun s => by rw [← hcla]; exact hcl2 s
   refine p9 (fun mm a o nx => ∃ (r j : Nat) (L R : List Nat) (g : Tag) (vN vA : AV), goC cl (T7 N) r j L R = some P ∧ mm = r ∧ j ≤ L.length ∧ 1 ≤ L.length ∧ aD9 cl L ∧ R.length = j * 5 ∧ (∀ s ∈ L, s < i) ∧ nx' + 4 ≤ nx ∧
     o (0, 1) = some (.row ⟨27, 1, (0, 1), false, true, [.sl i (cI N), .sl i (cB A)]⟩) ∧ o (0, 2) = some (.row ⟨27, 1, (0, 2), false, true, [.nil, .nil]⟩) ∧ o (nx' + 1, 8) = some (.row ⟨27, 1, (nx' + 1, 8), false, true, [vN, vA]⟩) ∧
     o (1, 23) = some (.row ⟨66, 1, (1, 23), false, true, [.sl i (cI N), .sl i (cB A), .ref (b, 15) (b, 15) 0 i]⟩) ∧ o (b, 15) = some (.row ⟨3, 1, (b, 15), false, true, cI (nL x)⟩) ∧
     o (nx' + 1 + 1, 46) = some (.map (I1 cl 0 L)) ∧ o (nx' + 1 + 1 + 1, 54) = some (.row ⟨3, 1, g, false, true, cI (nL L)⟩) ∧ HS 54 5 110 o nx vN j (cI (nL R)) ∧ HS 4 1 122 o nx vA j (cB (bW7 A (L.take j))) ∧
     a 1 = .ptr (0, 1) (0, 1) 0 ∧ a 2 = .ptr (0, 2) (0, 2) 0 ∧ a 3 = al3 ∧ a 8 = .ptr (nx' + 1, 8) (nx' + 1, 8) 0 ∧ a 9 = .mp (nx' + 1 + 1, 46) ∧ a 10 = .ref (nx' + 1 + 1 + 1, 54) g 0 L.length ∧ a 11 = .int .i64 j) (i + 2) (by omega)
    ⟨i + 2, 0, [0], [], (nx' + 1 + 1 + 1, 54), .nil, .nil, hrun, rfl, by simp, by simp, at7 _ 0, rfl, fun s hs => (by rw [List.mem_singleton.1 hs]; omega), by omega, ?_, ?_, ?_, ?_, ?_, ?_, ?_, HS.nil, HS.nil, ?_, ?_, ?_, ?_, ?_, ?_, ?_⟩ ?_
   ·simp (disch := omega) only [go_sem, o1']
   ·simp (disch := omega) only [go_sem, o2']
   ·simp (disch := omega) only [go_sem]
   ·simp (disch := omega) only [go_sem, o23']
   ·simp (disch := omega) only [go_sem, o15]
   ·simp (disch := omega) only [go_sem]
    rw [hcla]
    rfl
   ·simp (disch := omega) only [go_sem]
    rfl
   ·simp (disch := omega) only [go_sem, h1]
   ·simp (disch := omega) only [go_sem, h2]
   ·simp (disch := omega) only [go_sem, h3]
   ·simp (disch := omega) only [go_sem]
   ·simp (disch := omega) only [go_sem]
   ·simp (disch := omega) only [go_sem]
   ·simp (disch := omega) only [go_sem]
   clear hrun o1' o2' o23' o15 h1 h2 h3
   rintro mm a o nx ⟨r, j, L, R, g, vN, vA, hG, rfl, hj, hL1, hD, hRl, hLn, hnx4, ho1, ho2, ho8, ho23, ho15, ho46, ho54, hvN, hvA, h1, h2, h3, h8, h9, h10, h11⟩
   obtain ⟨r', rfl, hG'⟩ := bP4 hG
   clear hG
   by_cases hlt : j < L.length
   ·rcases hG' with ⟨hx, _⟩ | ⟨y, hx, hG⟩
    ·have := List.getElem?_eq_none_iff.1 hx; omega
    have hyn := hLn y (List.mem_of_getElem? hx)
    have hpre := fun m => (aE0 (nx := T7 N) (x := y) hD m)
    have hall := fun m (hm : m ≤ 5) => aE1 (cl := cl) (nx := T7 N) (x := y) (p := fun s => s < i) hLn m (fun j hj => by rw [← hA]; exact hO.next (by omega) (by omega))
    have hLc : L.length ≤ i := ae8 hcl hD
    obtain ⟨row, hrw', hrow, htl, hok, htt, hl5⟩ := aL7 hN hyn
    have q1 := bi4 (s := 1) hlt
    rw [C7 hx] at q1
    simp (disch := omega) only [go_sem, bE7, h1, h2, h3, h8, h9, h10, h11, ho1, ho54, q1, hrw', htl, hok, htt, hl5]
    clear q1
    refine p9 (fun mm a o' nx'' => ∃ (m : Nat) (g' : Tag), m ≤ 5 ∧ mm = 5 - m ∧ nx + 3 ≤ nx'' ∧ Frz [1, 2, 8, 23, 15, 110, 122] nx o o' ∧
     o' (nx' + 1 + 1, 46) = some (.map (I1 cl 0 (O5 cl (T7 N) y m L).2)) ∧ o' (nx' + 1 + 1 + 1, 54) = some (.row ⟨3, 1, g', false, true, cI (nL (O5 cl (T7 N) y m L).2)⟩) ∧
     o' (nx + 1, 12) = some (.row ⟨54, 1, (nx + 1, 12), false, true, cI (nL (O5 cl (T7 N) y m L).1 ++ List.replicate (5 - m) 0)⟩) ∧
     a 1 = .ptr (0, 1) (0, 1) 0 ∧ a 2 = .ptr (0, 2) (0, 2) 0 ∧ a 3 = al3 ∧ a 8 = .ptr (nx' + 1, 8) (nx' + 1, 8) 0 ∧ a 9 = .mp (nx' + 1 + 1, 46) ∧ a 10 = .ref (nx' + 1 + 1 + 1, 54) g' 0 (O5 cl (T7 N) y m L).2.length ∧ a 11 = .int .i64 j ∧ a 12 = .ptr (nx + 1, 12) (nx + 1, 12) 0 ∧ a 68 = .agg row ∧ a 69 = .int .i64 m) 5 (by omega)
     ⟨0, g, by omega, by omega, by omega, (Frz.refl _ _ _).upd (.inl (by omega)), by rw [F5 (by omega)]; exact ho46, by rw [F5 (by omega)]; exact ho54, j6 _ _ _, by simp (disch := omega) only [go_sem, h1], by simp (disch := omega) only [go_sem, h2], by simp (disch := omega) only [go_sem, h3], by simp (disch := omega) only [go_sem, h8], by simp (disch := omega) only [go_sem, h9], by simp (disch := omega) only [go_sem, h10]; rfl, by simp (disch := omega) only [go_sem, h11], by simp (disch := omega) only [go_sem], by simp (disch := omega) only [go_sem], by simp (disch := omega) only [go_sem]⟩ ?_
    clear h1 h2 h3 h8 h9 h10 h11 ho46 ho54
    rintro mm a o' nx'' ⟨m, g', hm, rfl, hnx'', hkp, ho46, ho54, ho12, h1, h2, h3, h8, h9, h10, h11, h12, h68, h69⟩
    have ho1' := (hkp 0 1 (by omega) (by decide)).trans ho1
    have ho2' := (hkp 0 2 (by omega) (by decide)).trans ho2
    have ho8' := (hkp (nx' + 1) 8 (by omega) (by decide)).trans ho8
    have ho23' := (hkp 1 23 (by omega) (by decide)).trans ho23
    have ho15' := (hkp b 15 (by omega) (by decide)).trans ho15
    obtain ⟨hD', hpr, hRl', _⟩ := hpre m
    have hx' := hpr j y hx
    have hLn' := hall m hm
    have hLc' := ae8 hcl hD'
    by_cases hm5 : m < 5
    ·have hsucc : O5 cl (T7 N) y (m + 1) L = ((O5 cl (T7 N) y m L).1 ++ [(aL3 cl (O5 cl (T7 N) y m L).2 (T7 N y m)).1], (aL3 cl (O5 cl (T7 N) y m L).2 (T7 N y m)).2) := rfl
     have hent := hO.e (y * 5 + m) (by omega)
     have hto : N.getD (y * 5 + m) 0 = ((T7 N y m : Nat) : Int) := by unfold T7; omega
     have hton : T7 N y m < i := by rw [← hA]; exact hO.next (by omega) hm5
     have q2 := hrow m hm5
     rw [hto] at q2
     generalize T7 N y m = to at *
     generalize (O5 cl (T7 N) y m L).1 = R' at *
     generalize (O5 cl (T7 N) y m L).2 = L' at *
     have q3 := bi4 (l := x) (i := to) (s := 1) (by omega)
     rw [hcla] at q3
     have hfd := ai6 cl (cl to) L' 0
     have hset := fun k => aT0 R' 5 m k hRl' hm5
     have hl12 : (cI (nL R' ++ List.replicate (5 - m) 0)).length = 5 := by rw [m4, List.length_append, A1, List.length_replicate]; omega
     unfold aL3 at hsucc
     cases hfi : L'.findIdx? (fun s => cl s == cl to) with
     | some k =>
      rw [hfi] at hfd hsucc
      dsimp only at hsucc
      simp only [Option.map_some, Nat.zero_add] at hfd
      simp (disch := omega) only [go_sem, bE7, h1, h2, h3, h8, h9, h10, h11, h12, h68, h69, ho23', ho15', ho46, ho12, q2, q3, hfd, hset, hl12]
      exact ⟨5 - (m + 1), by omega, m + 1, g', by omega, rfl, by omega, hkp.upd (.inl (by omega)), by rw [hsucc], by rw [hsucc]; exact ho54, by rw [hsucc], by rw [hsucc], rfl⟩
     | none =>
      have hmn := cj2 hfi
      rw [hfi] at hfd hsucc
      dsimp only at hsucc
      simp only [Option.map_none] at hfd
      have hup : ∀ (o : Ob) (nx : Nat), bH7 (nx' + 1 + 1, 46) (.int .i64 (cl to : Nat)) (.int .i64 (L'.length : Nat)) o nx (I1 cl 0 L') = some ⟨upd o (nx' + 1 + 1, 46) (.map (I1 cl 0 (L' ++ [to]))), nx⟩ := fun o nx => by rw [aQ0 hfd, hmn]
      have hkl : (cI (nL L')).take L'.length = cI (nL L') := f7 (by rw [m4, A1])
      simp (disch := omega) only [go_sem, bE7, h1, h2, h3, h8, h9, h10, h11, h12, h68, h69, ho23', ho15', ho46, ho54, ho12, q2, q3, hfd, hset, hl12, hup, hkl, A1]
      exact ⟨5 - (m + 1), by omega, m + 1, (nx'' + 1 + 1 + 1 + 1 + 1 + 1, 101), by omega, rfl, by omega, (((hkp.upd (.inr (by decide))).upd (.inr (by decide))).upd (.inr (by decide))).upd (.inl (by omega)), by rw [hsucc], by rw [hsucc]; simp [nL, cI], by rw [hsucc], by rw [hsucc]; simp, rfl⟩
    ·have hme : m = 5 := by omega
     subst hme
     have hLi : bW7 A ((O5 cl (T7 N) y 5 L).2.take (j + 1)) = bW7 A (L.take j) ++ [A.getD y false] := by
      rw [List.take_add_one, hx']
      have : (O5 cl (T7 N) y 5 L).2.take j = L.take j := by
       refine List.ext_getElem? fun k => ?_
       rw [List.getElem?_take, List.getElem?_take]
       by_cases hk : k < j
       ·rw [if_pos hk, if_pos hk, hpr k _ (List.getElem?_eq_getElem (show k < L.length by omega)), List.getElem?_eq_getElem (show k < L.length by omega)]
       ·rw [if_neg hk, if_neg hk]
      rw [this]
      simp
     have hltL : j < (O5 cl (T7 N) y 5 L).2.length := (List.getElem?_eq_some_iff.1 hx').1
     generalize (O5 cl (T7 N) y 5 L).1 = R' at *
     generalize (O5 cl (T7 N) y 5 L).2 = L' at *
     have q1 := bi4 (s := 1) hltL
     rw [C7 hx'] at q1
     have q2 := R3 (l := A) (i := y) (s := 1) (by omega)
     have hvN' := hvN.keep (fun j hj => hkp j 110 hj (by decide)) (show nx ≤ nx'' by omega)
     have hvA' := hvA.keep (fun j hj => hkp j 122 hj (by decide)) (show nx ≤ nx'' by omega)
     rw [Nat.sub_self, List.replicate_zero, List.append_nil] at ho12
     have hl6 : (cI (nL R')).length = 5 := by rw [m4, A1, hRl']
     have htk5 : (cI (nL R')).take 5 = cI (nL R') := f7 hl6
     have hok5 := av5 (nL R')
     obtain ⟨j8, hj8, hap8⟩ := hvN'.app (nx'' + 1) 40 1 (cI (nL R')) (by omega) (by rw [hl6]) hok5 (by simp only [U3]; omega)
     obtain ⟨j9, hj9, hap9⟩ := hvA'.app (nx'' + 1) 1 1 [.bool (A.getD y false)] (by omega) rfl rfl (by simp only [U3]; omega)
     have hRR : cI (nL (R ++ R')) = cI (nL R) ++ cI (nL R') := by rw [cD4, ak5]
     have hokN := hvN'.ok
     have hokA := hvA'.ok
     have htN := hvN'.tagAll
     have htA := hvA'.tagAll
     have hnN := hvN'.ninOf
     have hnA := hvA'.ninOf
     have hlR : (cI (nL R)).length = j * 5 := by rw [m4, A1, hRl]
     have hlAc : (cB (bW7 A (L.take j))).length = j * 1 := by rw [z8, List.length_map, List.length_take]; omega
     simp (disch := first | omega | (intro _; simp (disch := omega) only [go_sem, bE7, h1, h2, h3, h8, h9, h10, h11, h12, h68, h69, ho1', ho8', ho12, ho54, q1, q2, hl6, htk5, hok5, hap8, hap9, hokN, hokA])) only [go_sem, bE7, h1, h2, h3, h8, h9, h10, h11, h12, h68, h69, ho1', ho8', ho12, ho54, q1, q2, hl6, htk5, hok5, hap8, hap9, hokN, hokA]
     refine ⟨?_, r', by omega, r', j + 1, L', R ++ R', g', _, _, hG, rfl, by omega, by omega, hD', by rw [List.length_append, hRl, hRl']; omega, hLn', by omega, ho2', rfl, ho23', ho15', ho46, rfl, ?_, ?_, rfl, rfl⟩
     ·rcases hvN' with ⟨rfl, _, _⟩ | ⟨q, g2, rfl, _, _, _⟩ <;> rcases hvA' with ⟨rfl, _, _⟩ | ⟨q', g2', rfl, _, _, _⟩ <;> simp (disch := omega) only [go_sem]
     ·rw [hRR]
      exact HS.grown (m := 1) (by omega) (by simp [d6]) hlR (by rw [hl6])
     ·rw [hLi, aI9]
      exact HS.grown (m := 1) (new := [.bool (A.getD y false)]) (by omega) (by simp [d6]) hlAc rfl
   ·rcases hG' with ⟨hx, hP⟩ | ⟨y, hx, _⟩
    ·subst hP
     have hie : j = L.length := by omega
     subst hie
     rw [List.take_length] at hvA
     have hlc := ae8 hcl hD
     have hc5 := dc1 (n := L.length) (N := nL R) (by omega) (by omega) (by rw [A1]; omega)
     have hcb := dc2 (n := L.length) (A := bW7 A L) (by omega) (by omega) (by simp)
     have e1 : ∀ o'' : Ob, (∀ i, o'' (i, 110) = o (i, 110)) → view o'' 1012 vN = .sl L.length (cI (nL R)) := fun o'' h => by rw [(hvN.keep (fun i _ => h i) (Nat.le_refl _)).view 1011, N0]
     have e2 : ∀ o'' : Ob, (∀ i, o'' (i, 122) = o (i, 122)) → view o'' 1012 vA = .sl L.length (cB (bW7 A L)) := fun o'' h => by rw [(hvA.keep (fun i _ => h i) (Nat.le_refl _)).view 1011, cc0]
     have e3 := hvN.ok
     have e4 := hvA.ok
     have e5 := fun i j h => hvN.nin 1011 (aP9 o 1011 (nL R)) (i := i) (j := j) h
     have e6 : ∀ (o'' : Ob) (i j : Nat), (∀ i, o'' (i, 122) = o (i, 122)) → j ≠ 122 → nin (i, j) (b9 o'' 1012 vA) = true := fun o'' i j ho hj => (hvA.keep (fun i _ => ho i) (Nat.le_refl _)).nin 1011 (cc1 o'' 1011 (bW7 A L)) hj
     have e7 : ∀ p : Tag → Bool, (∀ i, p (i, 110) = true) → (b9 o 1012 vN).all p = true := fun p hp => List.all_eq_true.2 fun t ht => by
      have := hvN.tags 1011 (aP9 o 1011 (nL R)) t ht
      obtain ⟨i, j⟩ := t
      dsimp only at this
      subst this
      exact hp i
     simp (disch := first | omega | (intro _; simp (disch := omega) only [go_sem, bE7, h1, h2, h3, h8, h9, h10, h11, ho2, ho8, ho54, e1, e2, e3, e4, e5, e6, e7, hc5, hcb, bA2, List.append_nil])) only [go_sem, bE7, h1, h2, h3, h8, h9, h10, h11, ho2, ho8, ho54, e1, e2, e3, e4, e5, e6, e7, hc5, hcb, bA2, List.append_nil]
    ·have := (List.getElem?_eq_some_iff.1 hx).1; omega
  ·rw [if_neg he] at hs'
   have he' : ¬ ((F.length : Nat) : Int) = (k : Int) := by omega
   simp (disch := omega) only [go_sem, h1, h2, h3, h6, he']
   exact ⟨r', by omega, r', x, F.length, nx + 1 + 3, 15, _, hs', hl1, rfl, by omega, by decide, rfl, o1', o2', o23', o15⟩
theorem cj3 {n : Nat} {N : List Int} {A : List Bool} (hw : WfD n N A) : Ok Tryd.prog 16 [Z4 n N A] (Z4 (O3 N A).length (aa1 N A) (O3 N A)) := by
 refine k0 (E := EX md0 XMz) (cr := cE8) cF5 cj1 mixed (k := 2005) Tryd.func16 cF6 rfl (V5 (cF7 hw) ?_)
 rintro u a o nx ⟨rfl, h⟩
 refine ⟨.inr rfl, ?_⟩
 simp only [Tryd.f16, ad1, ak6, ak7, ar0]
 cases hl : P6 Tryd.prog 27 (a 2) ⟨o, nx⟩ with
 | none =>
  rw [hl] at h
  cases h
 | some v =>
  rw [hl] at h
  show wO (bo1 (P6 Tryd.prog 27 (a 2) ⟨o, nx⟩) (some [])) _
  rw [hl]
  exact h
theorem bA7 (args r) (h : cr0 args r) : Ok Tryd.prog 16 args r := by obtain ⟨n, N, A, h1, rfl, rfl⟩ := h; exact cj3 h1
end Go.Proofs.YtpmjpogcaglphaaDoor.A
