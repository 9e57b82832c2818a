/- The document's Text: its contract. -/
import Derived.Test.YtpmjpogcaglphaaDoorMLMLaws31
set_option linter.unusedVariables false
set_option linter.unusedSimpArgs false
set_option linter.unnecessarySimpa false
namespace Go.Proofs.YtpmjpogcaglphaaDoor.A
open Go
set_option maxRecDepth 20000
theorem bJ1 : ((List.range 31).map fun q => (O5 E4 1000).1 48 [.int .i64 ((q + 1 : Nat) : Int)]) = (List.range 31).map fun q => some (.str (br6 (q + 1))) := by kernel_rfl
theorem ca0 {s : Nat} (h0 : 1 ≤ s) (h1 : s ≤ 31) : (O5 E4 1000).1 48 [.int .i64 (s : Int)] = some (.str (br6 s)) := by
 have := cq0 bJ1 (q := s - 1) (by omega)
 rwa [show s - 1 + 1 = s by omega] at this
theorem aJ7 (t : List UInt8) (sep : List UInt8) : ∀ l : List (List UInt8), Lib.join (l ++ [t]) sep = if l = [] then t else Lib.join l sep ++ sep ++ t
 | [] => by rw [List.nil_append, J2, if_pos rfl]
 | [u] => by rw [if_neg (by simp), List.singleton_append, B1, J2, J2]; simp
 | u :: v :: l => by
  have ih := aJ7 t sep (v :: l)
  rw [if_neg (by simp)] at ih ⊢
  have e : u :: v :: l ++ [t] = u :: v :: (l ++ [t]) := rfl
  rw [e, B1, ← List.cons_append, ih, B1]
  simp
theorem aY3 {k : Int} (hk : k ≠ 0) (x : Nd) : j7 k x = bM6 (decide (ai7 x = 5 ∨ (ai7 x = 4 ∧ k ≠ 5))) (j7 0 x) := by
 obtain ⟨q, s, lo, hi, l⟩ := x
 have hq : ai7 (.mk q s lo hi l) = q := rfl
 rw [hq, j7, j7]
 by_cases h1 : q = 1
 ·subst h1; rw [if_pos rfl, if_pos rfl, decide_eq_false (by omega)]; rfl
 by_cases h2 : q = 2
 ·subst h2; rw [if_neg h1, if_neg h1, if_pos rfl, if_pos rfl, decide_eq_false (by omega)]; rfl
 by_cases h3 : q = 3
 ·subst h3; rw [if_neg h1, if_neg h1, if_neg h2, if_neg h2, if_pos rfl, if_pos rfl, decide_eq_false (by omega)]; rfl
 rw [if_neg h1, if_neg h1, if_neg h2, if_neg h2, if_neg h3, if_neg h3]
 by_cases h4 : q = 4 ∨ q = 5
 ·rw [if_pos h4, if_pos h4]
  have e0 : decide ((0 : Int) ≠ 0 ∧ (q = 5 ∨ (0 : Int) ≠ 5)) = false := rfl
  rw [e0]
  have e1 : decide (k ≠ 0 ∧ (q = 5 ∨ k ≠ 5)) = decide (q = 5 ∨ (q = 4 ∧ k ≠ 5)) := by rw [Bool.eq_iff_iff]; simp only [decide_eq_true_eq]; omega
  rw [e1]
  rfl
 ·rw [if_neg h4, if_neg h4, decide_eq_false (by omega)]
  rfl
theorem cw0 (X) : f7 (EX md0 X) (fun _ => none) 2 Tryd.f49 = true := by kernel_rfl
def cS4 (x : Nd) (args : List AV) (r : AV) : Prop := args = [j5 x] ∧ r = .str (j7 0 x)
theorem ca3 (x) : Q5 (cS4 x) := by
 rintro args r r' ⟨_, rfl⟩ ⟨_, rfl⟩
 rfl
theorem aJ8 (k : Int) (x : Nd) (hk : k ≠ 0) (hl : (j7 0 x).length ≤ 100000000) (h : Ok Tryd.prog 25 [j5 x] (.str (j7 0 x))) : Ok Tryd.prog 49 [.int .i64 k, j5 x] (.str (j7 k x)) := by
 refine m5 (E := EX md0 (p4 [(25, E3 (cS4 x))])) (cr := noR) (k0 (p9 _) (n5 (fun args r h' => by obtain ⟨rfl, rfl⟩ := h'; exact h))) (o8 _) mixed (k := 10) Tryd.func49 (cw0 _) rfl ?_
 have hX : p4 [(25, E3 (cS4 x))] 25 [j5 x] = some (.str (j7 0 x)) := m8 (ca3 x) ⟨rfl, rfl⟩
 rw [aY3 hk]
 generalize j7 0 x = t at *
 obtain ⟨q, s, lo, hi, l⟩ := x
 have hq : ai7 (.mk q s lo hi l) = q := rfl
 rw [hq]
 simp only [j5, o7] at hX
 simp only [Tryd.f49, Option.getD_some, j5, o7]
 by_cases h5 : q = 5
 ·subst h5
  rw [decide_eq_true (.inl rfl)]
  simp (disch := omega) only [go_sem, hX]
  simp [bM6]
 ·by_cases h4 : q = 4
  ·subst h4
   by_cases hk5 : k = 5
   ·subst hk5
    rw [decide_eq_false (by omega)]
    simp (disch := omega) only [go_sem, hX]
    rfl
   ·rw [decide_eq_true (by omega)]
    simp (disch := omega) only [go_sem, hX, hk5]
    simp [bM6]
  ·rw [decide_eq_false (by omega)]
   simp (disch := omega) only [go_sem, hX, h5, h4]
   rfl
theorem bw3 (X) : f7 (EX md0 X) (fun _ => none) 1 Tryd.f25 = true := by kernel_rfl
def ca4 (t : List UInt8) : l8 := fun u a o nx => (u = .normal ∨ u = .ret) ∧ wO (m4 Tryd.prog a ⟨o, nx⟩ Tryd.f25.results.toList) (fun vs => view o n6 (ad3 vs) = .str t)
theorem ax3 (k s : Int) (h : (k = 1 ∧ 1 ≤ s ∧ s ≤ 31) ∨ (k = 2 ∧ s = 0) ∨ (k = 3 ∧ s = 0)) (X : FuncId → List AV → Option AV) (hset : ∀ s : Nat, 1 ≤ s → s ≤ 31 → X 48 [.int .i64 s] = some (.str (br6 s))) :
  WP (EX md0 X) noR 1002 (fun _ => none) (Tryd.f25.body.getD .skip) (y0 [j5 (.mk k s 0 0 [])]) (fun _ => none) 0 (ca4 (j7 0 (.mk k s 0 0 []))) := by
 simp only [Tryd.f25, Option.getD_some, j5, o7]
 rcases h with ⟨rfl, h0, h1⟩ | ⟨rfl, rfl⟩ | ⟨rfl, rfl⟩
 ·have h2 := hset s.toNat (by omega) (by omega)
  rw [Int.toNat_of_nonneg (by omega)] at h2
  simp (disch := omega) only [go_sem, h2]
  refine ⟨.inr rfl, ?_⟩
  simp only [Tryd.f25]
  simp (disch := omega) only [go_sem]
  rw [j7, if_pos rfl]
 ·simp (disch := omega) only [go_sem]
  refine ⟨.inr rfl, ?_⟩
  simp only [Tryd.f25]
  simp (disch := omega) only [go_sem]
  rw [j7, if_neg (by decide), if_pos rfl]
 ·simp (disch := omega) only [go_sem]
  refine ⟨.inr rfl, ?_⟩
  simp only [Tryd.f25]
  simp (disch := omega) only [go_sem]
  rw [j7, if_neg (by decide), if_neg (by decide), if_pos rfl]
def bw4 (k : Int) : List UInt8 := if k = 5 then [124] else []
theorem aJ9 (l : List (List UInt8)) (sep : List UInt8) (i : Nat) : (Lib.join (l.take i) sep).length ≤ (Lib.join l sep).length := by
 rcases Nat.lt_or_ge i l.length with h | h
 ·have : ∀ (a b : List (List UInt8)), (Lib.join a sep).length ≤ (Lib.join (a ++ b) sep).length := by
   intro a b
   induction a with
   | nil => simp [Lib.join, List.intercalate]
   | cons x a ih =>
    cases a with
    | nil =>
     cases b with
     | nil => exact Nat.le_refl _
     | cons y b => rw [List.singleton_append, B1, J2, List.length_append]; omega
    | cons y a =>
     have e : x :: y :: a ++ b = x :: y :: (a ++ b) := rfl
     rw [e, B1, B1, List.length_append, List.length_append, List.length_append, List.length_append]
     rw [List.cons_append] at ih
     omega
  have h2 := this (l.take i) (l.drop i)
  rwa [List.take_append_drop] at h2
 ·rw [List.take_of_length_le h]; omega
theorem J6 (k lo hi : Int) (l : List Nd) (hk : 4 ≤ k) (hl : l.length ≤ 1000) (hlen : (Lib.join (p7 k l) (bw4 k)).length ≤ 100000000) (X : FuncId → List AV → Option AV) (hch : ∀ i, i < l.length → X 49 [.int .i64 k, j5 (l.getD i default)] = some (.str (j7 k (l.getD i default)))) {Q : l8} {a : n8} {o : Ob} {nx : Nat} (hnx : 1 ≤ nx)
  (a1 : a 1 = .ptr (0, 1) (0, 1) 0) (a3 : a 3 = .str []) (a4 : a 4 = .int .i64 0) (ho : o (0, 1) = some (.row ⟨37, 1, (0, 1), false, true, [.int .i64 k, .int .i64 0, .int .i64 lo, .int .i64 hi, slN l]⟩))
  (hQ : ∀ a o nx, 1 ≤ nx → a 1 = .ptr (0, 1) (0, 1) 0 → a 3 = .str (Lib.join (p7 k l) (bw4 k)) → o (0, 1) = some (.row ⟨37, 1, (0, 1), false, true, [.int .i64 k, .int .i64 0, .int .i64 lo, .int .i64 hi, slN l]⟩) → Q .normal a o nx) :
  WP (EX md0 X) noR 1002 (fun _ => none) (v7 [1, 1, 1, 0, 1, 0] (Tryd.f25.body.getD .skip)) a o nx (K5 1 Q) := by
 simp only [Tryd.f25, Option.getD_some, v7]
 rw [aw7] at hlen hQ
 refine u2 (fun m a o nx => ∃ i : Nat, i ≤ l.length ∧ m = l.length - i ∧ 1 ≤ nx ∧ a 1 = .ptr (0, 1) (0, 1) 0 ∧ a 3 = .str (Lib.join ((l.take i).map (j7 k)) (bw4 k)) ∧ a 4 = .int .i64 i ∧ o (0, 1) = some (.row ⟨37, 1, (0, 1), false, true, [.int .i64 k, .int .i64 0, .int .i64 lo, .int .i64 hi, slN l]⟩)) l.length (by omega) ⟨0, by omega, by omega, by omega, a1, a3, a4, ho⟩ ?_
 clear a1 a3 a4 ho hnx
 rintro m a o nx ⟨i, hi, rfl, hnx, a1, a3, a4, ho⟩
 by_cases hlt : i < l.length
 ·have hat := bl5 hlt
  have hci := hch i hlt
  have htk := t8 hlt default
  have hle := aJ9 (l.map (j7 k)) (bw4 k) (i + 1)
  rw [← List.map_take, htk, List.map_append] at hle
  have hsn := aJ7 (j7 k (l.getD i default)) (bw4 k) ((l.take i).map (j7 k))
  have hnil : (l.take i).map (j7 k) = [] ↔ i = 0 := by
   constructor
   ·intro e
    have := congrArg List.length e
    rw [List.length_map, List.length_take] at this
    simp at this
    rcases this with h | h
    ·exact h
    ·rw [h] at hlt; simp at hlt
   ·rintro rfl; rfl
  have hle' : (Lib.join ((l.take i).map (j7 k) ++ [j7 k (l.getD i default)]) (bw4 k)).length ≤ 100000000 := Nat.le_trans hle hlen
  simp only [j5] at hci
  have hres : (l.take (i + 1)).map (j7 k) = (l.take i).map (j7 k) ++ [j7 k (l.getD i default)] := by rw [htk, List.map_append]; rfl
  clear htk hle
  generalize l.getD i default = x at *
  by_cases h0 : i = 0
  ·rw [if_pos (hnil.2 h0)] at hsn
   rw [hsn] at hle'
   rw [hnil.2 h0] at a3
   have e0 : Lib.join [] (bw4 k) = [] := rfl
   rw [e0] at a3
   simp (disch := omega) only [go_sem, a1, a3, a4, ho, hat, hci]
   exact ⟨_, by omega, i + 1, by omega, rfl, by rw [hres, hsn], rfl⟩
  ·rw [if_neg (fun e => h0 (hnil.1 e))] at hsn
   rw [hsn, List.length_append, List.length_append] at hle'
   by_cases h5 : k = 5
   ·subst h5
    have hs5 : bw4 5 = [124] := rfl
    rw [hs5] at hsn hle' a3
    simp only [List.length_singleton] at hle'
    simp (disch := omega) only [go_sem, a1, a3, a4, ho, hat, hci]
    exact ⟨_, by omega, i + 1, by omega, rfl, by rw [hres, hs5, hsn], rfl⟩
   ·have hs5 : bw4 k = [] := if_neg h5
    rw [hs5] at hsn hle' a3
    simp (disch := omega) only [go_sem, a1, a3, a4, ho, hat, hci, h5]
    exact ⟨_, by omega, i + 1, by omega, rfl, by rw [hres, hs5, hsn, List.append_nil], rfl⟩
 ·have hie : i = l.length := by omega
  rw [hie, List.take_length] at a3
  simp (disch := omega) only [go_sem, a1, a3, a4, ho]
  exact hQ _ _ _ (by omega) (by simp (disch := omega) only [go_sem, a1]) (by simp (disch := omega) only [go_sem, a3]) ho
theorem bf7 (k : Int) (l : List Nd) (hk : k = 4 ∨ k = 5) (hl : l.length ≤ 1000) (hlen : (j7 0 (.mk k 0 0 0 l)).length ≤ 100000000) (X : FuncId → List AV → Option AV) (hch : ∀ i, i < l.length → X 49 [.int .i64 k, j5 (l.getD i default)] = some (.str (j7 k (l.getD i default)))) :
  WP (EX md0 X) noR 1002 (fun _ => none) (Tryd.f25.body.getD .skip) (y0 [j5 (.mk k 0 0 0 l)]) (fun _ => none) 0 (ca4 (j7 0 (.mk k 0 0 0 l))) := by
 have ht : j7 0 (.mk k 0 0 0 l) = Lib.join (p7 k l) (bw4 k) := by
  rw [j7, if_neg (by omega), if_neg (by omega), if_neg (by omega), if_pos hk]
  rfl
 rw [ht] at hlen ⊢
 simp only [Tryd.f25, Option.getD_some, j5, o7]
 rcases hk with rfl | rfl
 ·simp (disch := omega) only [go_sem]
  refine J6 4 0 0 l (by omega) hl hlen X hch (by omega) rfl rfl rfl rfl (fun a o nx hnx a1 a3 ho => ?_)
  simp (disch := omega) only [go_sem, a1, a3, ho]
  refine ⟨.inr rfl, ?_⟩
  simp only [Tryd.f25]
  simp (disch := omega) only [go_sem]
 ·simp (disch := omega) only [go_sem]
  refine J6 5 0 0 l (by omega) hl hlen X hch (by omega) rfl rfl rfl rfl (fun a o nx hnx a1 a3 ho => ?_)
  simp (disch := omega) only [go_sem, a1, a3, ho]
  refine ⟨.inr rfl, ?_⟩
  simp only [Tryd.f25]
  simp (disch := omega) only [go_sem]
theorem bf8 (bs : List UInt8) : R9 (bs.map fun b => .int .u8 b.toNat) = some bs := by
 induction bs with
 | nil => rfl
 | cons b bs ih =>
  rw [List.map_cons, R9, ih]
  simp [b.toNat_lt]
theorem bJ2 {tg k g : Tag} {o : Ob} {nx n : Nat} {ro pl : Bool} {cs : List AV} (bs : List UInt8) (ho : o k = some (.row ⟨5, 1, g, ro, pl, cs⟩)) (hc : cs = bs.map fun b => .int .u8 b.toNat) (hn : n = bs.length) : f6 Tryd.prog tg 88 9 (.ref k g 0 n) ⟨o, nx⟩ = some (.str bs, ⟨o, nx⟩) := by
 refine aa4 (e := 5) (n := n) (cs := cs) (by kernel_rfl) (by kernel_rfl) (by kernel_rfl) ?_ (by rw [hc, hn, List.length_map]) (by rw [hc]; exact bf8 bs)
 have hl : cs.length = n := by rw [hc, hn, List.length_map]
 simp only [z7, W7, ho, if_true, Option.some.injEq, Prod.mk.injEq, true_and, List.drop_zero, Nat.mul_one]
 exact j0 hl
theorem aY4 {d : Int} (h0 : 0 ≤ d) (h1 : d ≤ 9) : IntKind.u8.wrap (48 + d) = ((dig d.toNat).toNat : Int) := by
 have : ∀ x : Fin 10, IntKind.u8.wrap (48 + (x.1 : Int)) = ((dig x.1).toNat : Int) := by decide +kernel
 have := this ⟨d.toNat, by omega⟩
 rwa [show ((d.toNat : Nat) : Int) = d by omega] at this
theorem ax4 (k lo hi : Int) (x : Nd) (h : ((k = 6 ∨ k = 7 ∨ k = 8) ∧ lo = 0 ∧ hi = 0) ∨ (k = 9 ∧ 0 ≤ lo ∧ lo ≤ hi ∧ hi ≤ 9)) (hlen : (j7 0 (.mk k 0 lo hi [x])).length ≤ 100000000) (X : FuncId → List AV → Option AV) (hch : ∀ i, i < [x].length → X 49 [.int .i64 k, j5 ([x].getD i default)] = some (.str (j7 k ([x].getD i default)))) :
  WP (EX md0 X) noR 1002 (fun _ => none) (Tryd.f25.body.getD .skip) (y0 [j5 (.mk k 0 lo hi [x])]) (fun _ => none) 0 (ca4 (j7 0 (.mk k 0 lo hi [x]))) := by
 have ht : j7 0 (.mk k 0 lo hi [x]) = j7 k x ++ bf1 k lo hi := by
  rw [j7, if_neg (by omega), if_neg (by omega), if_neg (by omega), if_neg (by omega), p7]; rfl
 rw [ht] at hlen ⊢
 rw [List.length_append] at hlen
 have hj : Lib.join (p7 k [x]) (bw4 k) = j7 k x := by rw [p7, p7, J2]
 simp only [Tryd.f25, Option.getD_some, j5, o7]
 rcases h with ⟨rfl | rfl | rfl, rfl, rfl⟩ | ⟨rfl, h0, h1, h2⟩
 ·simp (disch := omega) only [go_sem]
  refine J6 6 0 0 [x] (by omega) (by simp) (by rw [hj]; omega) X hch (by omega) rfl rfl rfl rfl (fun a o nx hnx a1 a3 ho => ?_)
  rw [hj] at a3
  simp (disch := omega) only [go_sem, a1, a3, ho]
  refine ⟨.inr rfl, ?_⟩
  simp only [Tryd.f25]
  simp (disch := omega) only [go_sem]
  rfl
 ·simp (disch := omega) only [go_sem]
  refine J6 7 0 0 [x] (by omega) (by simp) (by rw [hj]; omega) X hch (by omega) rfl rfl rfl rfl (fun a o nx hnx a1 a3 ho => ?_)
  rw [hj] at a3
  simp (disch := omega) only [go_sem, a1, a3, ho]
  refine ⟨.inr rfl, ?_⟩
  simp only [Tryd.f25]
  simp (disch := omega) only [go_sem]
  rfl
 ·simp (disch := omega) only [go_sem]
  refine J6 8 0 0 [x] (by omega) (by simp) (by rw [hj]; omega) X hch (by omega) rfl rfl rfl rfl (fun a o nx hnx a1 a3 ho => ?_)
  rw [hj] at a3
  simp (disch := omega) only [go_sem, a1, a3, ho]
  refine ⟨.inr rfl, ?_⟩
  simp only [Tryd.f25]
  simp (disch := omega) only [go_sem]
  rfl
 ·have c1 := aY4 h0 (by omega)
  have c2 := aY4 (d := hi) (by omega) h2
  simp (disch := omega) only [go_sem]
  refine J6 9 lo hi [x] (by omega) (by simp) (by rw [hj]; omega) X hch (by omega) rfl rfl rfl rfl (fun a o nx hnx a1 a3 ho => ?_)
  rw [hj] at a3
  have hcv : ∀ (tg k g : Tag) (o : Ob) (nx : Nat), o k = some (.row ⟨5, 1, g, false, true, [.int .u8 123, .int .u8 (dig lo.toNat).toNat, .int .u8 44, .int .u8 (dig hi.toNat).toNat, .int .u8 125]⟩) → f6 Tryd.prog tg 88 9 (.ref k g 0 5) ⟨o, nx⟩ = some (.str [123, dig lo.toNat, 44, dig hi.toNat, 125], ⟨o, nx⟩) := fun tg k g o nx h => bJ2 _ h rfl rfl
  simp (disch := omega) only [go_sem, a1, a3, ho, c1, c2]
  rw [hcv _ _ _ _ _ (f8 _ _ _)]
  simp (disch := omega) only [go_sem]
  refine ⟨.inr rfl, ?_⟩
  simp only [Tryd.f25]
  simp (disch := omega) only [go_sem]
  rfl
def RBr (k : Int) (l : List Nd) (args : List AV) (r : AV) : Prop := ∃ i, i < l.length ∧ args = [.int .i64 k, j5 (l.getD i default)] ∧ r = .str (j7 k (l.getD i default))
theorem cw1 (k l) : Q5 (RBr k l) := by
 rintro args r r' ⟨i, _, rfl, rfl⟩ ⟨j, _, h, rfl⟩
 simp only [List.cons.injEq, AV.agg.injEq, and_true, true_and] at h
 rw [Y4 h]
noncomputable def XDt (k : Int) (l : List Nd) : FuncId → List AV → Option AV := p4 [(49, E3 (RBr k l)), (48, (O5 E4 1000).1 48)]
theorem bJ3 (k : Int) (x : Nd) (hk : k ≠ 0) : (j7 0 x).length ≤ (j7 k x).length := by
 rw [aY3 hk, bM6]
 split
 ·simp; omega
 ·omega
theorem aY5 : ∀ (n : Nd), B0 n = true → az5 n = true → (j7 0 n).length ≤ 100000000 → Ok Tryd.prog 25 [j5 n] (.str (j7 0 n))
 | .mk k s lo hi l, hr, hw, hlen => by
  obtain ⟨hx, hc⟩ := y5 hr
  rw [az5, Bool.and_eq_true, decide_eq_true_eq] at hw
  have hk0 : k ≠ 0 := by omega
  have hok : m7 Tryd.prog (XDt k l) := k0 (k0 (p9 _) (fun args r h => aS8 (E := E4) bS8 mixed h)) (n5 (fun args r h' => by
   obtain ⟨i, hil, rfl, rfl⟩ := h'
   have hm : l.getD i default ∈ l := by
    rw [List.getD_eq_getElem?_getD, List.getElem?_eq_getElem hil]
    exact List.getElem_mem hil
   have := bb7 hil k s lo hi
   have hle : (j7 0 (l.getD i default)).length ≤ 100000000 := Nat.le_trans (bJ3 k _ hk0) (Nat.le_trans (bI6 hr hm) hlen)
   exact aJ8 k _ hk0 hle (aY5 (l.getD i default) (hx _ hm) (bS9 hw.2 hil) hle)))
  have hset : ∀ s : Nat, 1 ≤ s → s ≤ 31 → XDt k l 48 [.int .i64 s] = some (.str (br6 s)) := fun s h0 h1 => ca0 h0 h1
  have hch : ∀ i, i < l.length → XDt k l 49 [.int .i64 k, j5 (l.getD i default)] = some (.str (j7 k (l.getD i default))) := fun i h => m8 (cw1 k l) ⟨i, h, rfl, rfl⟩
  refine m5 (E := EX md0 (XDt k l)) (cr := noR) hok (o8 _) mixed (k := 1002) Tryd.func25 (bw3 _) rfl ?_
  rcases hc with ⟨rfl, rfl, rfl, rfl, h0, h1⟩ | ⟨hk, rfl, rfl, rfl, rfl⟩ | ⟨hk, rfl, rfl, rfl, y1, y2, r, rfl⟩ | ⟨hk, rfl, rfl, rfl, x, rfl⟩ | ⟨rfl, rfl, h0, h1, h2, x, rfl⟩
  ·exact ax3 1 s (.inl ⟨rfl, h0, h1⟩) _ hset
  ·exact ax3 k 0 (by omega) _ hset
  ·exact bf7 k _ hk hw.1 hlen _ hch
  ·exact ax4 k 0 0 x (.inl ⟨hk, rfl, rfl⟩) hlen _ hch
  ·exact ax4 9 lo hi x (.inr ⟨rfl, h0, h1, h2⟩) hlen _ hch
termination_by n => SizeOf.sizeOf n
decreasing_by
 exact this
theorem bw5 (args r) (h : bI7 args r) : Ok Tryd.prog 25 args r := by
 obtain ⟨n, h1, h2, h3, rfl, rfl⟩ := h
 exact aY5 n h1 h2 h3
end Go.Proofs.YtpmjpogcaglphaaDoor.A
