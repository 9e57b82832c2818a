/- Trees: raw expressions, nodes, their cells; the expression of a raw one. -/
import Derived.Test.YthhfjjnhkifbfaaDoorMLDTakes1
import Derived.Test.YthhfjjnhkifbfaaDoorMLDTakes2
import Derived.Test.YthhfjjnhkifbfaaDoorMLDTakes3
import Derived.Test.YthhfjjnhkifbfaaDoorMLDTakes4
import Derived.Test.YthhfjjnhkifbfaaDoorMLDTakes5
set_option linter.unusedVariables false
set_option linter.unusedSimpArgs false
set_option linter.unnecessarySimpa false
namespace Go.Proofs.YthhfjjnhkifbfaaDoor.A
open Go
set_option maxRecDepth 20000
/-! ### trees, and their cells -/
inductive Rw where
  | mk (k n : Int) (l : List Rw)
inductive Nd where
  | mk (kind set lo hi : Int) (l : List Nd)
instance : Inhabited Rw := ⟨.mk 0 0 []⟩
instance : Inhabited Nd := ⟨.mk 0 0 0 0 []⟩
mutual
def cRw : Rw → List AV
  | .mk k n l => [.int .i64 k, .int .i64 n, .sl l.length (cRws l)]
def cRws : List Rw → List AV
  | [] => []
  | r :: l => cRw r ++ cRws l
end
mutual
def cNd : Nd → List AV
  | .mk kind set lo hi l => [.int .i64 kind, .int .i64 set, .int .i64 lo, .int .i64 hi, .sl l.length (cNds l)]
def cNds : List Nd → List AV
  | [] => []
  | r :: l => cNd r ++ cNds l
end
abbrev slR (l : List Rw) : AV := .sl l.length (cRws l)
abbrev slN (l : List Nd) : AV := .sl l.length (cNds l)
@[go_sem] theorem cRw_mk (k n l) : cRw (.mk k n l) = [.int .i64 k, .int .i64 n, slR l] := by rw [cRw]
@[go_sem] theorem cNd_mk (k s lo hi l) : cNd (.mk k s lo hi l) = [.int .i64 k, .int .i64 s, .int .i64 lo, .int .i64 hi, slN l] := by rw [cNd]
@[go_sem] theorem cRws_nil : cRws [] = [] := by rw [cRws]
@[go_sem] theorem cNds_nil : cNds [] = [] := by rw [cNds]
theorem cRws_cons (r l) : cRws (r :: l) = cRw r ++ cRws l := by rw [cRws]
theorem cNds_cons (r l) : cNds (r :: l) = cNd r ++ cNds l := by rw [cNds]
theorem cRw_length (r) : (cRw r).length = 3 := by obtain ⟨k, n, l⟩ := r; rw [cRw_mk]; rfl
theorem cNd_length (r) : (cNd r).length = 5 := by obtain ⟨k, s, lo, hi, l⟩ := r; rw [cNd_mk]; rfl
@[go_sem] theorem cRw_len (r) : (cRw r).length = 3 := cRw_length r
@[go_sem] theorem cNd_len (r) : (cNd r).length = 5 := cNd_length r
@[go_sem] theorem cRw_take (r) : (cRw r).take 3 = cRw r := take_len (cRw_length r)
@[go_sem] theorem cNd_take (r) : (cNd r).take 5 = cNd r := take_len (cNd_length r)
theorem cRw_take' (r x) : (cRw r ++ x).take 3 = cRw r := by rw [List.take_append_of_le_length (by rw [cRw_length]; omega), cRw_take]
theorem cNd_take' (r x) : (cNd r ++ x).take 5 = cNd r := by rw [List.take_append_of_le_length (by rw [cNd_length]; omega), cNd_take]
attribute [go_sem] cRw_take' cNd_take'
@[go_sem] theorem cNd_ok (r) : (cNd r).all cellOk = true := by obtain ⟨k, s, lo, hi, m⟩ := r; rw [cNd_mk]; rfl
@[go_sem] theorem cRw_ok (r) : (cRw r).all cellOk = true := by obtain ⟨k, n, m⟩ := r; rw [cRw_mk]; rfl
@[go_sem] theorem cRws_length (l) : (cRws l).length = l.length * 3 := by
  induction l with
  | nil => rw [cRws_nil]; rfl
  | cons r l ih => rw [cRws_cons, List.length_append, cRw_length, ih, List.length_cons]; omega
@[go_sem] theorem cNds_length (l) : (cNds l).length = l.length * 5 := by
  induction l with
  | nil => rw [cNds_nil]; rfl
  | cons r l ih => rw [cNds_cons, List.length_append, cNd_length, ih, List.length_cons]; omega
theorem cNds_app (x y) : cNds (x ++ y) = cNds x ++ cNds y := by
  induction x with
  | nil => rw [cNds_nil]; rfl
  | cons r l ih => rw [List.cons_append, cNds_cons, ih, cNds_cons, List.append_assoc]
theorem cNds_one (r) : cNds [r] = cNd r := by rw [cNds_cons, cNds_nil, List.append_nil]
@[go_sem] theorem cNds_ok (l) : (cNds l).all cellOk = true := by
  induction l with
  | nil => rw [cNds_nil]; rfl
  | cons r l ih => obtain ⟨k, s, lo, hi, m⟩ := r; rw [cNds_cons, cNd_mk, List.all_append, ih]; rfl
@[go_sem] theorem view_cNd (o d r) : (cNd r).map (view o d) = cNd r := by
  obtain ⟨k, s, lo, hi, m⟩ := r
  rw [cNd_mk]
  simp only [List.map_cons, List.map_nil, view_int, view_sl]
@[go_sem] theorem view_cNds (o d l) : (cNds l).map (view o d) = cNds l := by
  induction l with
  | nil => rw [cNds_nil]; rfl
  | cons r l ih => rw [cNds_cons, List.map_append, view_cNd, ih]
@[go_sem] theorem view_cRw (o d r) : (cRw r).map (view o d) = cRw r := by
  obtain ⟨k, n, m⟩ := r
  rw [cRw_mk]
  simp only [List.map_cons, List.map_nil, view_int, view_sl]
@[go_sem] theorem tags_cNd (o d r) : (cNd r).flatMap (viewTags o d) = [] := by
  obtain ⟨k, s, lo, hi, m⟩ := r
  rw [cNd_mk]
  simp only [List.flatMap_cons, List.flatMap_nil, tags_int, tags_sl, List.append_nil]
@[go_sem] theorem tags_cNds (o d l) : (cNds l).flatMap (viewTags o d) = [] := by
  induction l with
  | nil => rw [cNds_nil]; rfl
  | cons r l ih => rw [cNds_cons, List.flatMap_append, tags_cNd, ih]; rfl
@[go_sem] theorem tags_cRw (o d r) : (cRw r).flatMap (viewTags o d) = [] := by
  obtain ⟨k, n, m⟩ := r
  rw [cRw_mk]
  simp only [List.flatMap_cons, List.flatMap_nil, tags_int, tags_sl, List.append_nil]
theorem cRws_at {l : List Rw} {i : Nat} (h : i < l.length) : (cRws l).drop (i * 3) = cRw (l.getD i default) ++ cRws (l.drop (i + 1)) := by
  induction l generalizing i with
  | nil => simp at h
  | cons r l ih =>
    cases i with
    | zero => rw [cRws_cons]; rfl
    | succ i =>
      rw [cRws_cons, show (i + 1) * 3 = (cRw r).length + i * 3 by rw [cRw_length]; omega, ← List.drop_drop, List.drop_left, ih (by simpa using h)]
      rfl
theorem cNds_at {l : List Nd} {i : Nat} (h : i < l.length) : (cNds l).drop (i * 5) = cNd (l.getD i default) ++ cNds (l.drop (i + 1)) := by
  induction l generalizing i with
  | nil => simp at h
  | cons r l ih =>
    cases i with
    | zero => rw [cNds_cons]; rfl
    | succ i =>
      rw [cNds_cons, show (i + 1) * 5 = (cNd r).length + i * 5 by rw [cNd_length]; omega, ← List.drop_drop, List.drop_left, ih (by simpa using h)]
      rfl
mutual
theorem cRw_inj : ∀ {x y : Rw}, cRw x = cRw y → x = y
  | .mk k n l, .mk k' n' l', h => by
    rw [cRw_mk, cRw_mk] at h
    simp only [List.cons.injEq, AV.int.injEq, AV.sl.injEq, true_and, and_true] at h
    obtain ⟨h1, h2, _, h3⟩ := h
    rw [h1, h2, cRws_inj h3]
theorem cRws_inj : ∀ {x y : List Rw}, cRws x = cRws y → x = y
  | [], [], _ => rfl
  | [], r :: l, h => by
    have := congrArg List.length h
    rw [cRws_nil, cRws_length] at this
    simp at this
  | r :: l, [], h => by
    have := congrArg List.length h
    rw [cRws_nil, cRws_length] at this
    simp at this
  | r :: l, r' :: l', h => by
    rw [cRws_cons, cRws_cons] at h
    obtain ⟨h1, h2⟩ := List.append_inj h (by rw [cRw_length, cRw_length])
    rw [cRw_inj h1, cRws_inj h2]
end
mutual
theorem cNd_inj : ∀ {x y : Nd}, cNd x = cNd y → x = y
  | .mk k s lo hi l, .mk k' s' lo' hi' l', h => by
    rw [cNd_mk, cNd_mk] at h
    simp only [List.cons.injEq, AV.int.injEq, AV.sl.injEq, true_and, and_true] at h
    obtain ⟨h1, h2, h4, h5, _, h3⟩ := h
    rw [h1, h2, h4, h5, cNds_inj h3]
theorem cNds_inj : ∀ {x y : List Nd}, cNds x = cNds y → x = y
  | [], [], _ => rfl
  | [], r :: l, h => by
    have := congrArg List.length h
    rw [cNds_nil, cNds_length] at this
    simp at this
  | r :: l, [], h => by
    have := congrArg List.length h
    rw [cNds_nil, cNds_length] at this
    simp at this
  | r :: l, r' :: l', h => by
    rw [cNds_cons, cNds_cons] at h
    obtain ⟨h1, h2⟩ := List.append_inj h (by rw [cNd_length, cNd_length])
    rw [cNd_inj h1, cNds_inj h2]
end
/-! ### the expression of a raw one -/
def sign (x : Int) : Int := IntKind.i64.wrap (1 * 2 ^ min (x % 5).toNat 64)
def partN (n : Int) (ls : List Nd) (i : Nat) : Nd := if i < ls.length then ls.getD i default else .mk 1 (sign (IntKind.i64.wrap (n + i))) 0 0 []
def many4 (n : Nat) : Nat := if n ≤ 2 then 2 else if n ≤ 4 then n else 4
/-- Of a raw one's numbers, and its parts' expressions. -/
def buildN (k n : Int) (ls : List Nd) : Nd :=
  if k % 14 ≤ 1 then .mk 1 (1 + n % 31) 0 0 []
  else if k % 14 ≤ 3 then .mk 1 (sign n) 0 0 []
  else if k % 14 = 4 then .mk (if n % 3 = 0 then 2 else 3) 0 0 0 []
  else if k % 14 ≤ 7 then .mk 4 0 0 0 ((List.range (many4 ls.length)).map (partN n ls))
  else if k % 14 ≤ 9 then .mk 5 0 0 0 ((List.range (many4 ls.length)).map (partN n ls))
  else if k % 14 = 10 then .mk 6 0 0 0 [partN n ls 0]
  else if k % 14 = 11 then .mk 7 0 0 0 [partN n ls 0]
  else if k % 14 = 12 then .mk 8 0 0 0 [partN n ls 0]
  else .mk 9 0 (n % 4) (n % 4 + IntKind.i64.wrap (n.tdiv 4) % 3) [partN n ls 0]
mutual
def makeN : Rw → Nd
  | .mk k n l => buildN k n (makeNs l)
def makeNs : List Rw → List Nd
  | [] => []
  | r :: l => makeN r :: makeNs l
end
theorem makeNs_length (l) : (makeNs l).length = l.length := by
  induction l with
  | nil => rw [makeNs]; rfl
  | cons r l ih => rw [makeNs, List.length_cons, ih, List.length_cons]
theorem makeNs_get {l : List Rw} {i : Nat} (h : i < l.length) : (makeNs l).getD i default = makeN (l.getD i default) := by
  induction l generalizing i with
  | nil => simp at h
  | cons r l ih =>
    rw [makeNs]
    cases i with
    | zero => rfl
    | succ i => exact ih (by simpa using h)
abbrev rawV (r : Rw) : AV := .agg (cRw r)
abbrev nodeV (n : Nd) : AV := .agg (cNd n)
end Go.Proofs.YthhfjjnhkifbfaaDoor.A
/- l4 part and Make: contracts. UNDER WAY. -/
namespace Go.Proofs.YthhfjjnhkifbfaaDoor.A
open Go
set_option maxRecDepth 20000
theorem sign_conv (x : Int) : IntKind.u64.wrap (x % 5) = x % 5 := IntWalk.u64_in _ (by have := Int.emod_nonneg x (show (5 : Int) ≠ 0 by decide); have := Int.emod_lt_of_pos x (show (0 : Int) < 5 by decide); omega)
def RMk (l : List Rw) (args : List AV) (r : AV) : Prop := ∃ i, i < l.length ∧ args = [rawV (l.getD i default)] ∧ r = nodeV (makeN (l.getD i default))
theorem RMk_fn (l) : Fun1 (RMk l) := by
  rintro args r r' ⟨i, _, rfl, rfl⟩ ⟨j, _, h, rfl⟩
  simp only [List.cons.injEq, AV.agg.injEq, and_true] at h
  rw [cRw_inj h]
theorem lookPart (X) : lookedAt (EX md0 X) (fun _ => none) 2 Tryd.f50 = true := by kernel_rfl
theorem part_ok (k n : Int) (l : List Rw) (hch : ∀ i, i < l.length → Ok Tryd.prog 40 [rawV (l.getD i default)] (nodeV (makeN (l.getD i default)))) (i : Nat) (hi : i ≤ 1000000) :
    Ok Tryd.prog 50 [rawV (.mk k n l), .int .i64 i] (nodeV (partN n (makeNs l) i)) := by
  refine ok_of_WP (E := EX md0 (tabLook [(40, tRel (RMk l)), (49, tRel RW)])) (cr := noR) (tab_cons (tab_cons (tab_nil _) (tRel_ok within2_ok)) (tRel_ok (fun args r h => by obtain ⟨i, hi, rfl, rfl⟩ := h; exact hch i hi))) (noR_ok _) mixed (k := 0) Tryd.func50 (lookPart _) rfl ?_
  have hmk : ∀ j, j < l.length → tabLook [(40, tRel (RMk l)), (49, tRel RW)] 40 [rawV (l.getD j default)] = some (nodeV (makeN (l.getD j default))) := fun j hj => tRel_eq (RMk_fn l) ⟨j, hj, rfl, rfl⟩
  have hwi : ∀ a m : Int, 0 < m → m ≤ 1000000 → tabLook [(40, tRel (RMk l)), (49, tRel RW)] 49 [.int .i64 a, .int .i64 m] = some (.int .i64 (a % m)) := fun a m h1 h2 => rw_eq h1 h2
  simp only [Tryd.f50, Option.getD_some]
  by_cases hlt : i < l.length
  · have hat := cRws_at hlt
    have e : partN n (makeNs l) i = makeN (l.getD i default) := by rw [partN, makeNs_length, if_pos hlt, makeNs_get hlt]
    rw [e]
    have hm := hmk i hlt
    simp (disch := omega) only [go_sem, ↓IntWalk.iteOmega, IntWalk.toNatUp, Nat.reduceEqDiff, Nat.reduceAdd, Nat.reduceMul, Nat.reduceSub, Nat.reduceLT, Nat.reduceLeDiff, Int.reduceToNat, Int.reduceLT, Int.reduceLE, Int.reduceEq, Int.reduceAdd, Int.reduceSub, Int.reduceMul, Int.toNat_natCast, reduceCtorEq, decide_true, decide_false, IntWalk.i64_in, IntWalk.u64_in, IntWalk.u8_in, hat, hm]
  · have e : partN n (makeNs l) i = .mk 1 (sign (IntKind.i64.wrap (n + i))) 0 0 [] := by rw [partN, makeNs_length, if_neg hlt]
    rw [e]
    have hs := sign_conv (IntKind.i64.wrap (n + i))
    have hs0 := Int.emod_nonneg (IntKind.i64.wrap (n + i)) (show (5 : Int) ≠ 0 by decide)
    simp (disch := omega) only [go_sem, ↓IntWalk.iteOmega, IntWalk.toNatUp, Nat.reduceEqDiff, Nat.reduceAdd, Nat.reduceMul, Nat.reduceSub, Nat.reduceLT, Nat.reduceLeDiff, Int.reduceToNat, Int.reduceLT, Int.reduceLE, Int.reduceEq, Int.reduceAdd, Int.reduceSub, Int.reduceMul, Int.toNat_natCast, reduceCtorEq, decide_true, decide_false, IntWalk.i64_in, IntWalk.u64_in, IntWalk.u8_in, hwi, hs]
    simp only [nodeV, cNd_mk, sign, slN, cNds_nil, List.length_nil]
def nz34 : Nat → Option (List (Nat × Nat))
  | 17 => some [(1, 4), (1, 5)]
  | 25 => some [(1, 4), (1, 5)]
  | _ => none
theorem many4_in (n : Nat) : 2 ≤ many4 n ∧ many4 n ≤ 4 := by unfold many4; split <;> (try split) <;> omega
theorem many4_lt {n i : Nat} (h : i < many4 n) : i < 2 ∨ (2 ≤ i ∧ i < n ∧ i < 4) := by unfold many4 at h; split at h <;> (try split at h) <;> omega

theorem join_loop (k n : Int) (l : List Rw) (hpart : ∀ i : Nat, i ≤ 1000000 → Ok Tryd.prog 50 [rawV (.mk k n l), .int .i64 i] (nodeV (partN n (makeNs l) i))) (X : FuncId → List AV → Option AV)
    (hX : ∀ i : Nat, i ≤ 1000000 → X 50 [rawV (.mk k n l), .int .i64 i] = some (nodeV (partN n (makeNs l) i))) (kind : Int) {Q : WPost} (a : AAct) (o : Ob) (nx st : Nat) (hst : st < nx) (hst2 : 2 ≤ st)
    (h1 : a 1 = .ptr (0, 1) (0, 1) 0) (h2 : a 2 = .ptr (0, 2) (0, 2) 0) (h3 : a 3 = .ptr (st, 3) (st, 3) 0) (h4 : a 4 = .int .i64 0)
    (ho1 : o (0, 1) = some (.row ⟨85, 1, (0, 1), false, true, cRw (.mk k n l)⟩)) (ho2 : ∃ x, o (0, 2) = some (.row ⟨54, 1, (0, 2), false, true, x⟩) ∧ x.length = 5) (ho3 : o (st, 3) = some (.row ⟨54, 1, (st, 3), false, true, [.int .i64 kind, .int .i64 0, .int .i64 0, .int .i64 0, .nil]⟩))
    (hQ : ∀ a o nx, a 2 = .ptr (0, 2) (0, 2) 0 → (∃ v, o (0, 2) = some (.row ⟨54, 1, (0, 2), false, true, [.int .i64 kind, .int .i64 0, .int .i64 0, .int .i64 0, v]⟩) ∧ HS 54 5 63 o nx v (many4 l.length) (cNds ((List.range (many4 l.length)).map (partN n (makeNs l))))) → Q .ret a o nx) :
    WP (EX md0 X) noR 10 nz34 (pathC [1, 0, 1, 0, 1, 1, 1, 1, 1, 1, 1, 0, 1, 0, 1, 0] (Tryd.f40.body.getD .skip)) a o nx (blockQ 1 (thenQ (EX md0 X) noR 10 nz34 (pathC [1, 0, 1, 0, 1, 1, 1, 1, 1, 1, 1, 0, 1, 1] (Tryd.f40.body.getD .skip)) Q)) := by
  simp only [Tryd.f40, Option.getD_some, pathC]
  have hc := many4_in l.length
  refine WP_loop (fun m a o nx => ∃ i v, i ≤ many4 l.length ∧ m = many4 l.length - i ∧ st < nx ∧ a 1 = .ptr (0, 1) (0, 1) 0 ∧ a 2 = .ptr (0, 2) (0, 2) 0 ∧ a 3 = .ptr (st, 3) (st, 3) 0 ∧ a 4 = .int .i64 i ∧ HS 54 5 63 o nx v i (cNds ((List.range i).map (partN n (makeNs l)))) ∧
    o (0, 1) = some (.row ⟨85, 1, (0, 1), false, true, cRw (.mk k n l)⟩) ∧ (∃ x, o (0, 2) = some (.row ⟨54, 1, (0, 2), false, true, x⟩) ∧ x.length = 5) ∧ o (st, 3) = some (.row ⟨54, 1, (st, 3), false, true, [.int .i64 kind, .int .i64 0, .int .i64 0, .int .i64 0, v]⟩)) (many4 l.length) ?_ ⟨0, .nil, by omega, by omega, by omega, h1, h2, h3, h4, HS.nil, ho1, ho2, ho3⟩ ?_
  · omega
  · clear h1 h2 h3 h4 ho1 ho2 ho3
    rintro m a o nx ⟨i, v, hi, rfl, hnx, h1, h2, h3, h4, hHS, ho1, ⟨x, ho2, hx5⟩, ho3⟩
    have hok := hHS.ok
    by_cases hlt : i < many4 l.length
    · have hcond : i < 2 ∨ (2 ≤ i ∧ i < l.length ∧ i < 4) := many4_lt hlt
      have hp := hX i (by omega)
      simp only [rawV, nodeV, cRw_mk] at hp
      have hsn : (List.range (i + 1)).map (partN n (makeNs l)) = (List.range i).map (partN n (makeNs l)) ++ [partN n (makeNs l) i] := by rw [List.range_succ, List.map_append]; rfl
      rcases hHS with ⟨rfl, e2, e3⟩ | ⟨i1, g1, rfl, hi1, hrow, hlen⟩
      · rcases hcond with c | ⟨c1, c2, c3⟩
        · simp (disch := omega) only [go_sem, ↓IntWalk.iteOmega, IntWalk.toNatUp, Nat.reduceEqDiff, Nat.reduceAdd, Nat.reduceMul, Nat.reduceSub, Nat.reduceLT, Nat.reduceLeDiff, Int.reduceToNat, Int.reduceLT, Int.reduceLE, Int.reduceEq, Int.reduceAdd, Int.reduceSub, Int.reduceMul, Int.toNat_natCast, reduceCtorEq, decide_true, decide_false, IntWalk.i64_in, IntWalk.u64_in, IntWalk.u8_in, h1, h2, h3, h4, ho1, ho2, ho3, hp, nz34]
          refine ⟨_, ?_, i + 1, _, by omega, rfl, by omega, rfl, ?_, ⟨x, rfl, hx5⟩, rfl⟩
          · omega
          · rw [hsn, cNds_app, cNds_one, List.map_eq_nil_iff.2 (List.length_eq_zero_iff.1 (by rw [List.length_range]; exact e2)), cNds_nil]
            exact .inr ⟨nx + 1, _, by rw [e2], by omega, by simp [upd_app], by rw [List.nil_append, cNd_length, e2]⟩
        · omega
      · obtain ⟨cs, hcs⟩ : ∃ cs, cs = cNds ((List.range i).map (partN n (makeNs l))) := ⟨_, rfl⟩
        rw [← hcs] at hrow hlen
        have htk : cs.take (i * 5) = cs := take_len hlen
        have hfin : ∀ o' nx', o' (i1, 63) = some (.row ⟨54, 5, (nx + 1, 63), false, true, cs ++ cNd (partN n (makeNs l) i)⟩) → i1 < nx' → HS 54 5 63 o' nx' (.ref (i1, 63) (nx + 1, 63) 0 (i + 1)) (i + 1) (cNds ((List.range (i + 1)).map (partN n (makeNs l)))) := by
          intro o' nx' h h'
          rw [hsn, cNds_app, cNds_one, ← hcs]
          exact .inr ⟨i1, _, rfl, h', h, by rw [List.length_append, cNd_length, hlen]; omega⟩
        rcases hcond with c | ⟨c1, c2, c3⟩
        all_goals
          simp (disch := omega) only [go_sem, ↓IntWalk.iteOmega, IntWalk.toNatUp, Nat.reduceEqDiff, Nat.reduceAdd, Nat.reduceMul, Nat.reduceSub, Nat.reduceLT, Nat.reduceLeDiff, Int.reduceToNat, Int.reduceLT, Int.reduceLE, Int.reduceEq, Int.reduceAdd, Int.reduceSub, Int.reduceMul, Int.toNat_natCast, reduceCtorEq, decide_true, decide_false, IntWalk.i64_in, IntWalk.u64_in, IntWalk.u8_in, h1, h2, h3, h4, ho1, ho2, ho3, hp, hrow, nz34, hlen, htk]
          refine ⟨_, ?_, i + 1, _, by omega, rfl, by omega, rfl, hfin _ _ ?_ (by omega), ⟨x, rfl, hx5⟩, rfl⟩
          · omega
          · simp [upd_app]
    · have hie : i = many4 l.length := by omega
      have hc1 : ¬ i < 2 := by omega
      have hx0 : x.drop 5 = [] := List.drop_of_length_le (by omega)
      by_cases c2 : i < l.length
      · have c3 : ¬ i < 4 := by have := hie; unfold many4 at this; split at this <;> (try split at this) <;> omega
        simp (disch := omega) only [go_sem, ↓IntWalk.iteOmega, IntWalk.toNatUp, Nat.reduceEqDiff, Nat.reduceAdd, Nat.reduceMul, Nat.reduceSub, Nat.reduceLT, Nat.reduceLeDiff, Int.reduceToNat, Int.reduceLT, Int.reduceLE, Int.reduceEq, Int.reduceAdd, Int.reduceSub, Int.reduceMul, Int.toNat_natCast, reduceCtorEq, decide_true, decide_false, IntWalk.i64_in, IntWalk.u64_in, IntWalk.u8_in, h1, h2, h3, h4, ho1, ho2, ho3, hc1, hok]
        exact hQ _ _ _ (by simp [put_app, h2]) ⟨v, by rw [upd_same, hx0], by rw [← hie]; exact hHS.keep (fun _ _ => by simp [upd_app]) (by omega)⟩
      · simp (disch := omega) only [go_sem, ↓IntWalk.iteOmega, IntWalk.toNatUp, Nat.reduceEqDiff, Nat.reduceAdd, Nat.reduceMul, Nat.reduceSub, Nat.reduceLT, Nat.reduceLeDiff, Int.reduceToNat, Int.reduceLT, Int.reduceLE, Int.reduceEq, Int.reduceAdd, Int.reduceSub, Int.reduceMul, Int.toNat_natCast, reduceCtorEq, decide_true, decide_false, IntWalk.i64_in, IntWalk.u64_in, IntWalk.u8_in, h1, h2, h3, h4, ho1, ho2, ho3, hc1, hok]
        exact hQ _ _ _ (by simp [put_app, h2]) ⟨v, by rw [upd_same, hx0], by rw [← hie]; exact hHS.keep (fun _ _ => by simp [upd_app]) (by omega)⟩

theorem union_loop (k n : Int) (l : List Rw) (hpart : ∀ i : Nat, i ≤ 1000000 → Ok Tryd.prog 50 [rawV (.mk k n l), .int .i64 i] (nodeV (partN n (makeNs l) i))) (X : FuncId → List AV → Option AV)
    (hX : ∀ i : Nat, i ≤ 1000000 → X 50 [rawV (.mk k n l), .int .i64 i] = some (nodeV (partN n (makeNs l) i))) (kind : Int) {Q : WPost} (a : AAct) (o : Ob) (nx st : Nat) (hst : st < nx) (hst2 : 2 ≤ st)
    (h1 : a 1 = .ptr (0, 1) (0, 1) 0) (h2 : a 2 = .ptr (0, 2) (0, 2) 0) (h3 : a 5 = .ptr (st, 5) (st, 5) 0) (h4 : a 6 = .int .i64 0)
    (ho1 : o (0, 1) = some (.row ⟨85, 1, (0, 1), false, true, cRw (.mk k n l)⟩)) (ho2 : ∃ x, o (0, 2) = some (.row ⟨54, 1, (0, 2), false, true, x⟩) ∧ x.length = 5) (ho3 : o (st, 5) = some (.row ⟨54, 1, (st, 5), false, true, [.int .i64 kind, .int .i64 0, .int .i64 0, .int .i64 0, .nil]⟩))
    (hQ : ∀ a o nx, a 2 = .ptr (0, 2) (0, 2) 0 → (∃ v, o (0, 2) = some (.row ⟨54, 1, (0, 2), false, true, [.int .i64 kind, .int .i64 0, .int .i64 0, .int .i64 0, v]⟩) ∧ HS 54 5 91 o nx v (many4 l.length) (cNds ((List.range (many4 l.length)).map (partN n (makeNs l))))) → Q .ret a o nx) :
    WP (EX md0 X) noR 10 nz34 (pathC [1, 0, 1, 0, 1, 1, 1, 1, 1, 1, 1, 1, 1, 0, 1, 0, 1, 0] (Tryd.f40.body.getD .skip)) a o nx (blockQ 3 (thenQ (EX md0 X) noR 10 nz34 (pathC [1, 0, 1, 0, 1, 1, 1, 1, 1, 1, 1, 1, 1, 0, 1, 1] (Tryd.f40.body.getD .skip)) Q)) := by
  simp only [Tryd.f40, Option.getD_some, pathC]
  have hc := many4_in l.length
  refine WP_loop (fun m a o nx => ∃ i v, i ≤ many4 l.length ∧ m = many4 l.length - i ∧ st < nx ∧ a 1 = .ptr (0, 1) (0, 1) 0 ∧ a 2 = .ptr (0, 2) (0, 2) 0 ∧ a 5 = .ptr (st, 5) (st, 5) 0 ∧ a 6 = .int .i64 i ∧ HS 54 5 91 o nx v i (cNds ((List.range i).map (partN n (makeNs l)))) ∧
    o (0, 1) = some (.row ⟨85, 1, (0, 1), false, true, cRw (.mk k n l)⟩) ∧ (∃ x, o (0, 2) = some (.row ⟨54, 1, (0, 2), false, true, x⟩) ∧ x.length = 5) ∧ o (st, 5) = some (.row ⟨54, 1, (st, 5), false, true, [.int .i64 kind, .int .i64 0, .int .i64 0, .int .i64 0, v]⟩)) (many4 l.length) ?_ ⟨0, .nil, by omega, by omega, by omega, h1, h2, h3, h4, HS.nil, ho1, ho2, ho3⟩ ?_
  · omega
  · clear h1 h2 h3 h4 ho1 ho2 ho3
    rintro m a o nx ⟨i, v, hi, rfl, hnx, h1, h2, h3, h4, hHS, ho1, ⟨x, ho2, hx5⟩, ho3⟩
    have hok := hHS.ok
    by_cases hlt : i < many4 l.length
    · have hcond : i < 2 ∨ (2 ≤ i ∧ i < l.length ∧ i < 4) := many4_lt hlt
      have hp := hX i (by omega)
      simp only [rawV, nodeV, cRw_mk] at hp
      have hsn : (List.range (i + 1)).map (partN n (makeNs l)) = (List.range i).map (partN n (makeNs l)) ++ [partN n (makeNs l) i] := by rw [List.range_succ, List.map_append]; rfl
      rcases hHS with ⟨rfl, e2, e3⟩ | ⟨i1, g1, rfl, hi1, hrow, hlen⟩
      · rcases hcond with c | ⟨c1, c2, c3⟩
        · simp (disch := omega) only [go_sem, ↓IntWalk.iteOmega, IntWalk.toNatUp, Nat.reduceEqDiff, Nat.reduceAdd, Nat.reduceMul, Nat.reduceSub, Nat.reduceLT, Nat.reduceLeDiff, Int.reduceToNat, Int.reduceLT, Int.reduceLE, Int.reduceEq, Int.reduceAdd, Int.reduceSub, Int.reduceMul, Int.toNat_natCast, reduceCtorEq, decide_true, decide_false, IntWalk.i64_in, IntWalk.u64_in, IntWalk.u8_in, h1, h2, h3, h4, ho1, ho2, ho3, hp, nz34]
          refine ⟨_, ?_, i + 1, _, by omega, rfl, by omega, rfl, ?_, ⟨x, rfl, hx5⟩, rfl⟩
          · omega
          · rw [hsn, cNds_app, cNds_one, List.map_eq_nil_iff.2 (List.length_eq_zero_iff.1 (by rw [List.length_range]; exact e2)), cNds_nil]
            exact .inr ⟨nx + 1, _, by rw [e2], by omega, by simp [upd_app], by rw [List.nil_append, cNd_length, e2]⟩
        · omega
      · obtain ⟨cs, hcs⟩ : ∃ cs, cs = cNds ((List.range i).map (partN n (makeNs l))) := ⟨_, rfl⟩
        rw [← hcs] at hrow hlen
        have htk : cs.take (i * 5) = cs := take_len hlen
        have hfin : ∀ o' nx', o' (i1, 91) = some (.row ⟨54, 5, (nx + 1, 91), false, true, cs ++ cNd (partN n (makeNs l) i)⟩) → i1 < nx' → HS 54 5 91 o' nx' (.ref (i1, 91) (nx + 1, 91) 0 (i + 1)) (i + 1) (cNds ((List.range (i + 1)).map (partN n (makeNs l)))) := by
          intro o' nx' h h'
          rw [hsn, cNds_app, cNds_one, ← hcs]
          exact .inr ⟨i1, _, rfl, h', h, by rw [List.length_append, cNd_length, hlen]; omega⟩
        rcases hcond with c | ⟨c1, c2, c3⟩
        all_goals
          simp (disch := omega) only [go_sem, ↓IntWalk.iteOmega, IntWalk.toNatUp, Nat.reduceEqDiff, Nat.reduceAdd, Nat.reduceMul, Nat.reduceSub, Nat.reduceLT, Nat.reduceLeDiff, Int.reduceToNat, Int.reduceLT, Int.reduceLE, Int.reduceEq, Int.reduceAdd, Int.reduceSub, Int.reduceMul, Int.toNat_natCast, reduceCtorEq, decide_true, decide_false, IntWalk.i64_in, IntWalk.u64_in, IntWalk.u8_in, h1, h2, h3, h4, ho1, ho2, ho3, hp, hrow, nz34, hlen, htk]
          refine ⟨_, ?_, i + 1, _, by omega, rfl, by omega, rfl, hfin _ _ ?_ (by omega), ⟨x, rfl, hx5⟩, rfl⟩
          · omega
          · simp [upd_app]
    · have hie : i = many4 l.length := by omega
      have hc1 : ¬ i < 2 := by omega
      have hx0 : x.drop 5 = [] := List.drop_of_length_le (by omega)
      by_cases c2 : i < l.length
      · have c3 : ¬ i < 4 := by have := hie; unfold many4 at this; split at this <;> (try split at this) <;> omega
        simp (disch := omega) only [go_sem, ↓IntWalk.iteOmega, IntWalk.toNatUp, Nat.reduceEqDiff, Nat.reduceAdd, Nat.reduceMul, Nat.reduceSub, Nat.reduceLT, Nat.reduceLeDiff, Int.reduceToNat, Int.reduceLT, Int.reduceLE, Int.reduceEq, Int.reduceAdd, Int.reduceSub, Int.reduceMul, Int.toNat_natCast, reduceCtorEq, decide_true, decide_false, IntWalk.i64_in, IntWalk.u64_in, IntWalk.u8_in, h1, h2, h3, h4, ho1, ho2, ho3, hc1, hok]
        exact hQ _ _ _ (by simp [put_app, h2]) ⟨v, by rw [upd_same, hx0], by rw [← hie]; exact hHS.keep (fun _ _ => by simp [upd_app]) (by omega)⟩
      · simp (disch := omega) only [go_sem, ↓IntWalk.iteOmega, IntWalk.toNatUp, Nat.reduceEqDiff, Nat.reduceAdd, Nat.reduceMul, Nat.reduceSub, Nat.reduceLT, Nat.reduceLeDiff, Int.reduceToNat, Int.reduceLT, Int.reduceLE, Int.reduceEq, Int.reduceAdd, Int.reduceSub, Int.reduceMul, Int.toNat_natCast, reduceCtorEq, decide_true, decide_false, IntWalk.i64_in, IntWalk.u64_in, IntWalk.u8_in, h1, h2, h3, h4, ho1, ho2, ho3, hc1, hok]
        exact hQ _ _ _ (by simp [put_app, h2]) ⟨v, by rw [upd_same, hx0], by rw [← hie]; exact hHS.keep (fun _ _ => by simp [upd_app]) (by omega)⟩
end Go.Proofs.YthhfjjnhkifbfaaDoor.A
/- Make: the expression of a raw one. -/
namespace Go.Proofs.YthhfjjnhkifbfaaDoor.A
open Go
set_option maxRecDepth 20000
def RPart (k n : Int) (l : List Rw) (args : List AV) (r : AV) : Prop := ∃ i : Nat, i ≤ 1000000 ∧ args = [rawV (.mk k n l), .int .i64 i] ∧ r = nodeV (partN n (makeNs l) i)
theorem RPart_fn (k n l) : Fun1 (RPart k n l) := by
  rintro args r r' ⟨i, _, rfl, rfl⟩ ⟨j, _, h, rfl⟩
  simp only [List.cons.injEq, AV.int.injEq, and_true, true_and] at h
  rw [Int.ofNat_inj.1 h]
theorem lookMake (X) : lookedAt (EX md0 X) nz34 10 Tryd.f40 = true := by kernel_rfl
theorem make1_ok (k n : Int) (l : List Rw) (hpart : ∀ i : Nat, i ≤ 1000000 → Ok Tryd.prog 50 [rawV (.mk k n l), .int .i64 i] (nodeV (partN n (makeNs l) i))) :
    Ok Tryd.prog 40 [rawV (.mk k n l)] (nodeV (buildN k n (makeNs l))) := by
  refine ok_of_WP (E := EX md0 (tabLook [(50, tRel (RPart k n l)), (49, tRel RW)])) (cr := noR) (tab_cons (tab_cons (tab_nil _) (tRel_ok within2_ok)) (tRel_ok (fun args r h => by obtain ⟨i, hi, rfl, rfl⟩ := h; exact hpart i hi))) (noR_ok _) mixed (k := 10) Tryd.func40 (lookMake _) rfl ?_
  obtain ⟨X, hX⟩ : ∃ X, X = tabLook [(50, tRel (RPart k n l)), (49, tRel RW)] := ⟨_, rfl⟩
  have hp : ∀ j : Nat, j ≤ 1000000 → X 50 [rawV (.mk k n l), .int .i64 j] = some (nodeV (partN n (makeNs l) j)) := fun j hj => by rw [hX]; exact tRel_eq (RPart_fn k n l) ⟨j, hj, rfl, rfl⟩
  have hwi : ∀ a m : Int, 0 < m → m ≤ 1000000 → X 49 [.int .i64 a, .int .i64 m] = some (.int .i64 (a % m)) := fun a m h1 h2 => by rw [hX]; exact rw_eq h1 h2
  rw [← hX]
  clear hX
  simp only [Tryd.f40, Option.getD_some]
  have hk0 := Int.emod_nonneg k (show (14 : Int) ≠ 0 by decide)
  have hk1 := Int.emod_lt_of_pos k (show (0 : Int) < 14 by decide)
  have h31 := Int.emod_nonneg n (show (31 : Int) ≠ 0 by decide)
  have h31' := Int.emod_lt_of_pos n (show (0 : Int) < 31 by decide)
  have hp0 : X 50 [.agg [.int .i64 k, .int .i64 n, .sl l.length (cRws l)], .int .i64 0] = some (.agg (cNd (partN n (makeNs l) 0))) := by
    have := hp 0 (by omega)
    rw [rawV, nodeV, cRw_mk] at this
    exact this
  have hk : k % 14 = 0 ∨ k % 14 = 1 ∨ k % 14 = 2 ∨ k % 14 = 3 ∨ k % 14 = 4 ∨ k % 14 = 5 ∨ k % 14 = 6 ∨ k % 14 = 7 ∨ k % 14 = 8 ∨ k % 14 = 9 ∨ k % 14 = 10 ∨ k % 14 = 11 ∨ k % 14 = 12 ∨ k % 14 = 13 := by omega
  rcases hk with e | e | e | e | e | e | e | e | e | e | e | e | e | e
  · simp (disch := omega) only [go_sem, ↓IntWalk.iteOmega, IntWalk.toNatUp, Nat.reduceEqDiff, Nat.reduceAdd, Nat.reduceMul, Nat.reduceSub, Nat.reduceLT, Nat.reduceLeDiff, Int.reduceToNat, Int.reduceLT, Int.reduceLE, Int.reduceEq, Int.reduceAdd, Int.reduceSub, Int.reduceMul, Int.toNat_natCast, reduceCtorEq, decide_true, decide_false, IntWalk.i64_in, IntWalk.u64_in, IntWalk.u8_in, hwi, e, buildN]
    simp only [nodeV, cNd_mk, sign, slN, cNds_nil, List.length_nil]
  · simp (disch := omega) only [go_sem, ↓IntWalk.iteOmega, IntWalk.toNatUp, Nat.reduceEqDiff, Nat.reduceAdd, Nat.reduceMul, Nat.reduceSub, Nat.reduceLT, Nat.reduceLeDiff, Int.reduceToNat, Int.reduceLT, Int.reduceLE, Int.reduceEq, Int.reduceAdd, Int.reduceSub, Int.reduceMul, Int.toNat_natCast, reduceCtorEq, decide_true, decide_false, IntWalk.i64_in, IntWalk.u64_in, IntWalk.u8_in, hwi, e, buildN]
    simp only [nodeV, cNd_mk, sign, slN, cNds_nil, List.length_nil]
  · simp (disch := omega) only [go_sem, ↓IntWalk.iteOmega, IntWalk.toNatUp, Nat.reduceEqDiff, Nat.reduceAdd, Nat.reduceMul, Nat.reduceSub, Nat.reduceLT, Nat.reduceLeDiff, Int.reduceToNat, Int.reduceLT, Int.reduceLE, Int.reduceEq, Int.reduceAdd, Int.reduceSub, Int.reduceMul, Int.toNat_natCast, reduceCtorEq, decide_true, decide_false, IntWalk.i64_in, IntWalk.u64_in, IntWalk.u8_in, hwi, e, buildN]
    simp only [nodeV, cNd_mk, sign, slN, cNds_nil, List.length_nil]
  · simp (disch := omega) only [go_sem, ↓IntWalk.iteOmega, IntWalk.toNatUp, Nat.reduceEqDiff, Nat.reduceAdd, Nat.reduceMul, Nat.reduceSub, Nat.reduceLT, Nat.reduceLeDiff, Int.reduceToNat, Int.reduceLT, Int.reduceLE, Int.reduceEq, Int.reduceAdd, Int.reduceSub, Int.reduceMul, Int.toNat_natCast, reduceCtorEq, decide_true, decide_false, IntWalk.i64_in, IntWalk.u64_in, IntWalk.u8_in, hwi, e, buildN]
    simp only [nodeV, cNd_mk, sign, slN, cNds_nil, List.length_nil]
  · have h3 : n % 3 = 0 ∨ n % 3 = 1 ∨ n % 3 = 2 := by omega
    rcases h3 with e3 | e3 | e3
    all_goals
      simp (disch := omega) only [go_sem, ↓IntWalk.iteOmega, IntWalk.toNatUp, Nat.reduceEqDiff, Nat.reduceAdd, Nat.reduceMul, Nat.reduceSub, Nat.reduceLT, Nat.reduceLeDiff, Int.reduceToNat, Int.reduceLT, Int.reduceLE, Int.reduceEq, Int.reduceAdd, Int.reduceSub, Int.reduceMul, Int.toNat_natCast, reduceCtorEq, decide_true, decide_false, IntWalk.i64_in, IntWalk.u64_in, IntWalk.u8_in, hwi, e, e3, buildN]
      simp only [nodeV, cNd_mk, slN, cNds_nil, List.length_nil]
  · simp (disch := omega) only [go_sem, ↓IntWalk.iteOmega, IntWalk.toNatUp, Nat.reduceEqDiff, Nat.reduceAdd, Nat.reduceMul, Nat.reduceSub, Nat.reduceLT, Nat.reduceLeDiff, Int.reduceToNat, Int.reduceLT, Int.reduceLE, Int.reduceEq, Int.reduceAdd, Int.reduceSub, Int.reduceMul, Int.toNat_natCast, reduceCtorEq, decide_true, decide_false, IntWalk.i64_in, IntWalk.u64_in, IntWalk.u8_in, hwi, e, buildN]
    refine join_loop k n l hpart X hp 4 _ _ _ _ (by omega) (by omega) rfl rfl rfl rfl rfl ⟨_, rfl, rfl⟩ rfl ?_
    rintro a o nx h2 ⟨v, ho2, hHS⟩
    simp (disch := omega) only [go_sem, ↓IntWalk.iteOmega, IntWalk.toNatUp, Nat.reduceEqDiff, Nat.reduceAdd, Nat.reduceMul, Nat.reduceSub, Nat.reduceLT, Nat.reduceLeDiff, Int.reduceToNat, Int.reduceLT, Int.reduceLE, Int.reduceEq, Int.reduceAdd, Int.reduceSub, Int.reduceMul, Int.toNat_natCast, reduceCtorEq, decide_true, decide_false, IntWalk.i64_in, IntWalk.u64_in, IntWalk.u8_in, h2, ho2]
    rw [hHS.view, nodeV, cNd_mk, slN, List.length_map, List.length_range, makeNs_length, view_cNds]
  · simp (disch := omega) only [go_sem, ↓IntWalk.iteOmega, IntWalk.toNatUp, Nat.reduceEqDiff, Nat.reduceAdd, Nat.reduceMul, Nat.reduceSub, Nat.reduceLT, Nat.reduceLeDiff, Int.reduceToNat, Int.reduceLT, Int.reduceLE, Int.reduceEq, Int.reduceAdd, Int.reduceSub, Int.reduceMul, Int.toNat_natCast, reduceCtorEq, decide_true, decide_false, IntWalk.i64_in, IntWalk.u64_in, IntWalk.u8_in, hwi, e, buildN]
    refine join_loop k n l hpart X hp 4 _ _ _ _ (by omega) (by omega) rfl rfl rfl rfl rfl ⟨_, rfl, rfl⟩ rfl ?_
    rintro a o nx h2 ⟨v, ho2, hHS⟩
    simp (disch := omega) only [go_sem, ↓IntWalk.iteOmega, IntWalk.toNatUp, Nat.reduceEqDiff, Nat.reduceAdd, Nat.reduceMul, Nat.reduceSub, Nat.reduceLT, Nat.reduceLeDiff, Int.reduceToNat, Int.reduceLT, Int.reduceLE, Int.reduceEq, Int.reduceAdd, Int.reduceSub, Int.reduceMul, Int.toNat_natCast, reduceCtorEq, decide_true, decide_false, IntWalk.i64_in, IntWalk.u64_in, IntWalk.u8_in, h2, ho2]
    rw [hHS.view, nodeV, cNd_mk, slN, List.length_map, List.length_range, makeNs_length, view_cNds]
  · simp (disch := omega) only [go_sem, ↓IntWalk.iteOmega, IntWalk.toNatUp, Nat.reduceEqDiff, Nat.reduceAdd, Nat.reduceMul, Nat.reduceSub, Nat.reduceLT, Nat.reduceLeDiff, Int.reduceToNat, Int.reduceLT, Int.reduceLE, Int.reduceEq, Int.reduceAdd, Int.reduceSub, Int.reduceMul, Int.toNat_natCast, reduceCtorEq, decide_true, decide_false, IntWalk.i64_in, IntWalk.u64_in, IntWalk.u8_in, hwi, e, buildN]
    refine join_loop k n l hpart X hp 4 _ _ _ _ (by omega) (by omega) rfl rfl rfl rfl rfl ⟨_, rfl, rfl⟩ rfl ?_
    rintro a o nx h2 ⟨v, ho2, hHS⟩
    simp (disch := omega) only [go_sem, ↓IntWalk.iteOmega, IntWalk.toNatUp, Nat.reduceEqDiff, Nat.reduceAdd, Nat.reduceMul, Nat.reduceSub, Nat.reduceLT, Nat.reduceLeDiff, Int.reduceToNat, Int.reduceLT, Int.reduceLE, Int.reduceEq, Int.reduceAdd, Int.reduceSub, Int.reduceMul, Int.toNat_natCast, reduceCtorEq, decide_true, decide_false, IntWalk.i64_in, IntWalk.u64_in, IntWalk.u8_in, h2, ho2]
    rw [hHS.view, nodeV, cNd_mk, slN, List.length_map, List.length_range, makeNs_length, view_cNds]
  · simp (disch := omega) only [go_sem, ↓IntWalk.iteOmega, IntWalk.toNatUp, Nat.reduceEqDiff, Nat.reduceAdd, Nat.reduceMul, Nat.reduceSub, Nat.reduceLT, Nat.reduceLeDiff, Int.reduceToNat, Int.reduceLT, Int.reduceLE, Int.reduceEq, Int.reduceAdd, Int.reduceSub, Int.reduceMul, Int.toNat_natCast, reduceCtorEq, decide_true, decide_false, IntWalk.i64_in, IntWalk.u64_in, IntWalk.u8_in, hwi, e, buildN]
    refine union_loop k n l hpart X hp 5 _ _ _ _ (by omega) (by omega) rfl rfl rfl rfl rfl ⟨_, rfl, rfl⟩ rfl ?_
    rintro a o nx h2 ⟨v, ho2, hHS⟩
    simp (disch := omega) only [go_sem, ↓IntWalk.iteOmega, IntWalk.toNatUp, Nat.reduceEqDiff, Nat.reduceAdd, Nat.reduceMul, Nat.reduceSub, Nat.reduceLT, Nat.reduceLeDiff, Int.reduceToNat, Int.reduceLT, Int.reduceLE, Int.reduceEq, Int.reduceAdd, Int.reduceSub, Int.reduceMul, Int.toNat_natCast, reduceCtorEq, decide_true, decide_false, IntWalk.i64_in, IntWalk.u64_in, IntWalk.u8_in, h2, ho2]
    rw [hHS.view, nodeV, cNd_mk, slN, List.length_map, List.length_range, makeNs_length, view_cNds]
  · simp (disch := omega) only [go_sem, ↓IntWalk.iteOmega, IntWalk.toNatUp, Nat.reduceEqDiff, Nat.reduceAdd, Nat.reduceMul, Nat.reduceSub, Nat.reduceLT, Nat.reduceLeDiff, Int.reduceToNat, Int.reduceLT, Int.reduceLE, Int.reduceEq, Int.reduceAdd, Int.reduceSub, Int.reduceMul, Int.toNat_natCast, reduceCtorEq, decide_true, decide_false, IntWalk.i64_in, IntWalk.u64_in, IntWalk.u8_in, hwi, e, buildN]
    refine union_loop k n l hpart X hp 5 _ _ _ _ (by omega) (by omega) rfl rfl rfl rfl rfl ⟨_, rfl, rfl⟩ rfl ?_
    rintro a o nx h2 ⟨v, ho2, hHS⟩
    simp (disch := omega) only [go_sem, ↓IntWalk.iteOmega, IntWalk.toNatUp, Nat.reduceEqDiff, Nat.reduceAdd, Nat.reduceMul, Nat.reduceSub, Nat.reduceLT, Nat.reduceLeDiff, Int.reduceToNat, Int.reduceLT, Int.reduceLE, Int.reduceEq, Int.reduceAdd, Int.reduceSub, Int.reduceMul, Int.toNat_natCast, reduceCtorEq, decide_true, decide_false, IntWalk.i64_in, IntWalk.u64_in, IntWalk.u8_in, h2, ho2]
    rw [hHS.view, nodeV, cNd_mk, slN, List.length_map, List.length_range, makeNs_length, view_cNds]
  · simp (disch := omega) only [go_sem, ↓IntWalk.iteOmega, IntWalk.toNatUp, Nat.reduceEqDiff, Nat.reduceAdd, Nat.reduceMul, Nat.reduceSub, Nat.reduceLT, Nat.reduceLeDiff, Int.reduceToNat, Int.reduceLT, Int.reduceLE, Int.reduceEq, Int.reduceAdd, Int.reduceSub, Int.reduceMul, Int.toNat_natCast, reduceCtorEq, decide_true, decide_false, IntWalk.i64_in, IntWalk.u64_in, IntWalk.u8_in, hwi, e, buildN, hp0]
    simp only [nodeV, cNd_mk, slN, cNds_one, List.length_cons, List.length_nil]
  · simp (disch := omega) only [go_sem, ↓IntWalk.iteOmega, IntWalk.toNatUp, Nat.reduceEqDiff, Nat.reduceAdd, Nat.reduceMul, Nat.reduceSub, Nat.reduceLT, Nat.reduceLeDiff, Int.reduceToNat, Int.reduceLT, Int.reduceLE, Int.reduceEq, Int.reduceAdd, Int.reduceSub, Int.reduceMul, Int.toNat_natCast, reduceCtorEq, decide_true, decide_false, IntWalk.i64_in, IntWalk.u64_in, IntWalk.u8_in, hwi, e, buildN, hp0]
    simp only [nodeV, cNd_mk, slN, cNds_one, List.length_cons, List.length_nil]
  · simp (disch := omega) only [go_sem, ↓IntWalk.iteOmega, IntWalk.toNatUp, Nat.reduceEqDiff, Nat.reduceAdd, Nat.reduceMul, Nat.reduceSub, Nat.reduceLT, Nat.reduceLeDiff, Int.reduceToNat, Int.reduceLT, Int.reduceLE, Int.reduceEq, Int.reduceAdd, Int.reduceSub, Int.reduceMul, Int.toNat_natCast, reduceCtorEq, decide_true, decide_false, IntWalk.i64_in, IntWalk.u64_in, IntWalk.u8_in, hwi, e, buildN, hp0]
    simp only [nodeV, cNd_mk, slN, cNds_one, List.length_cons, List.length_nil]
  · have h4 := Int.emod_nonneg n (show (4 : Int) ≠ 0 by decide)
    have h4' := Int.emod_lt_of_pos n (show (0 : Int) < 4 by decide)
    have h5 := Int.emod_nonneg (IntKind.i64.wrap (n.tdiv 4)) (show (3 : Int) ≠ 0 by decide)
    have h5' := Int.emod_lt_of_pos (IntKind.i64.wrap (n.tdiv 4)) (show (0 : Int) < 3 by decide)
    simp (disch := omega) only [go_sem, ↓IntWalk.iteOmega, IntWalk.toNatUp, Nat.reduceEqDiff, Nat.reduceAdd, Nat.reduceMul, Nat.reduceSub, Nat.reduceLT, Nat.reduceLeDiff, Int.reduceToNat, Int.reduceLT, Int.reduceLE, Int.reduceEq, Int.reduceAdd, Int.reduceSub, Int.reduceMul, Int.toNat_natCast, reduceCtorEq, decide_true, decide_false, IntWalk.i64_in, IntWalk.u64_in, IntWalk.u8_in, hwi, e, buildN, hp0, nz34]
    simp only [nodeV, cNd_mk, slN, cNds_one, List.length_cons, List.length_nil]
theorem rmake_ok : ∀ r : Rw, Ok Tryd.prog 40 [rawV r] (nodeV (makeN r))
  | .mk k n l => by
    rw [makeN]
    refine make1_ok k n l (fun i hi => part_ok k n l (fun j hj => ?_) i (by omega))
    have : SizeOf.sizeOf (l.getD j default) < 1 + SizeOf.sizeOf k + SizeOf.sizeOf n + SizeOf.sizeOf l := by
      rw [List.getD_eq_getElem?_getD, List.getElem?_eq_getElem hj, Option.getD_some]
      have := List.sizeOf_lt_of_mem (List.getElem_mem hj)
      omega
    exact rmake_ok (l.getD j default)
termination_by r => SizeOf.sizeOf r
decreasing_by
  simp only [Rw.mk.sizeOf_spec]; exact this
end Go.Proofs.YthhfjjnhkifbfaaDoor.A
/- size, Few, One: of raw expressions. -/
namespace Go.Proofs.YthhfjjnhkifbfaaDoor.A
open Go
set_option maxRecDepth 20000
def kids : Rw → List Rw
  | .mk _ _ l => l
def szStep (f : List Rw → Int) (n : Int) (r : Rw) : Int := if n ≤ 14 then n + 1 + f (kids r) else n
def szD : Nat → List Rw → Int
  | 0, _ => 1000
  | d + 1, l => l.foldl (szStep (szD d)) 0
theorem sz_stuck {f : List Rw → Int} {n : Int} (h : ¬ n ≤ 14) : ∀ l : List Rw, l.foldl (szStep f) n = n
  | [] => rfl
  | r :: l => by rw [List.foldl_cons, szStep, if_neg h]; exact sz_stuck h l
theorem sz_in : ∀ (d : Nat) (l : List Rw), 0 ≤ szD d l ∧ szD d l ≤ 1000 + 15 * d
  | 0, l => by rw [szD]; omega
  | d + 1, l => by
    rw [szD]
    have : ∀ (l : List Rw) (n : Int), 0 ≤ n → n ≤ 1000 + 15 * (d + 1) → 0 ≤ l.foldl (szStep (szD d)) n ∧ l.foldl (szStep (szD d)) n ≤ 1000 + 15 * (d + 1) := by
      intro l
      induction l with
      | nil => exact fun n h1 h2 => ⟨h1, h2⟩
      | cons r l ih =>
        intro n h1 h2
        rw [List.foldl_cons]
        have := sz_in d (kids r)
        refine ih _ ?_ ?_ <;> unfold szStep <;> split <;> omega
    have := this l 0 (by omega) (by omega)
    omega
def RSize (d : Nat) (args : List AV) (r : AV) : Prop := ∃ l, args = [slR l, .int .i64 (7 - d)] ∧ r = .int .i64 (szD d l)
theorem RSize_fn (d) : Fun1 (RSize d) := by
  rintro args r r' ⟨l, rfl, rfl⟩ ⟨l', h, rfl⟩
  simp only [List.cons.injEq, AV.sl.injEq, and_true] at h
  rw [cRws_inj h.2]
theorem lookSize (X) : lookedAt (EX md0 X) (fun _ => none) 2 Tryd.f39 = true := by kernel_rfl
theorem size_ok : ∀ (d : Nat) (l : List Rw), d ≤ 7 → Ok Tryd.prog 39 [slR l, .int .i64 (7 - d)] (.int .i64 (szD d l))
  | 0, l, _ => by
    refine ok_of_WP (E := EX md0 (fun _ _ => none)) (cr := noR) (cp_none _) (noR_ok _) mixed (k := 20) Tryd.func39 (lookSize _) rfl ?_
    simp only [Tryd.f39, Option.getD_some, szD]
    simp (disch := omega) only [go_sem, ↓IntWalk.iteOmega, IntWalk.toNatUp, Nat.reduceEqDiff, Nat.reduceAdd, Nat.reduceMul, Nat.reduceSub, Nat.reduceLT, Nat.reduceLeDiff, Int.reduceToNat, Int.reduceLT, Int.reduceLE, Int.reduceEq, Int.reduceAdd, Int.reduceSub, Int.reduceMul, Int.toNat_natCast, reduceCtorEq, decide_true, decide_false, IntWalk.i64_in, IntWalk.u64_in, IntWalk.u8_in]
  | d + 1, l, hd => by
    refine ok_of_WP (E := EX md0 (tabLook [(39, tRel (RSize d))])) (cr := noR) (tab_cons (tab_nil _) (tRel_ok (fun args r h => by obtain ⟨l, rfl, rfl⟩ := h; exact size_ok d l (by omega)))) (noR_ok _) mixed (k := 20) Tryd.func39 (lookSize _) rfl ?_
    have hX : ∀ l : List Rw, tabLook [(39, tRel (RSize d))] 39 [.sl l.length (cRws l), .int .i64 (7 - d)] = some (.int .i64 (szD d l)) := fun l => tRel_eq (RSize_fn d) ⟨l, rfl, rfl⟩
    simp only [Tryd.f39, Option.getD_some]
    have h7 : ¬ ((7 : Int) - (d + 1 : Nat) > 6) := by omega
    simp (disch := omega) only [go_sem, ↓IntWalk.iteOmega, IntWalk.toNatUp, Nat.reduceEqDiff, Nat.reduceAdd, Nat.reduceMul, Nat.reduceSub, Nat.reduceLT, Nat.reduceLeDiff, Int.reduceToNat, Int.reduceLT, Int.reduceLE, Int.reduceEq, Int.reduceAdd, Int.reduceSub, Int.reduceMul, Int.toNat_natCast, reduceCtorEq, decide_true, decide_false, IntWalk.i64_in, IntWalk.u64_in, IntWalk.u8_in, h7]
    have hend : ∀ i, l.foldl (szStep (szD d)) 0 = (l.drop i).foldl (szStep (szD d)) ((l.take i).foldl (szStep (szD d)) 0) := fun i => by rw [← List.foldl_append, List.take_append_drop]
    refine WP_loop (fun m a o nx => ∃ (i : Nat) (s : Int), i ≤ l.length ∧ m = (15 - s).toNat ∧ a 0 = slR l ∧ a 1 = .int .i64 (7 - (d + 1 : Nat)) ∧ a 5 = .int .i64 s ∧ a 6 = .int .i64 i ∧ s = (l.take i).foldl (szStep (szD d)) 0 ∧ (i : Int) ≤ s ∧ s ≤ 2000) 15 (by omega) ⟨0, 0, by omega, rfl, by simp (disch := omega) only [go_sem, ↓IntWalk.iteOmega, IntWalk.toNatUp, Nat.reduceEqDiff, Nat.reduceAdd, Nat.reduceMul, Nat.reduceSub, Nat.reduceLT, Nat.reduceLeDiff, Int.reduceToNat, Int.reduceLT, Int.reduceLE, Int.reduceEq, Int.reduceAdd, Int.reduceSub, Int.reduceMul, Int.toNat_natCast, reduceCtorEq, decide_true, decide_false, IntWalk.i64_in, IntWalk.u64_in, IntWalk.u8_in], by simp (disch := omega) only [go_sem, ↓IntWalk.iteOmega, IntWalk.toNatUp, Nat.reduceEqDiff, Nat.reduceAdd, Nat.reduceMul, Nat.reduceSub, Nat.reduceLT, Nat.reduceLeDiff, Int.reduceToNat, Int.reduceLT, Int.reduceLE, Int.reduceEq, Int.reduceAdd, Int.reduceSub, Int.reduceMul, Int.toNat_natCast, reduceCtorEq, decide_true, decide_false, IntWalk.i64_in, IntWalk.u64_in, IntWalk.u8_in], by simp (disch := omega) only [go_sem, ↓IntWalk.iteOmega, IntWalk.toNatUp, Nat.reduceEqDiff, Nat.reduceAdd, Nat.reduceMul, Nat.reduceSub, Nat.reduceLT, Nat.reduceLeDiff, Int.reduceToNat, Int.reduceLT, Int.reduceLE, Int.reduceEq, Int.reduceAdd, Int.reduceSub, Int.reduceMul, Int.toNat_natCast, reduceCtorEq, decide_true, decide_false, IntWalk.i64_in, IntWalk.u64_in, IntWalk.u8_in], by simp (disch := omega) only [go_sem, ↓IntWalk.iteOmega, IntWalk.toNatUp, Nat.reduceEqDiff, Nat.reduceAdd, Nat.reduceMul, Nat.reduceSub, Nat.reduceLT, Nat.reduceLeDiff, Int.reduceToNat, Int.reduceLT, Int.reduceLE, Int.reduceEq, Int.reduceAdd, Int.reduceSub, Int.reduceMul, Int.toNat_natCast, reduceCtorEq, decide_true, decide_false, IntWalk.i64_in, IntWalk.u64_in, IntWalk.u8_in], rfl, by omega, by omega⟩ ?_
    rintro m a o nx ⟨i, s, hi, rfl, h0, h1, h5, h6, hs, hs0, hs1⟩
    have hi6 : (7 : Int) - (d + 1 : Nat) + 1 = 7 - d := by omega
    by_cases hlt : i < l.length
    · have hat := cRws_at hlt
      have htk : (l.take (i + 1)).foldl (szStep (szD d)) 0 = szStep (szD d) s (l.getD i default) := by rw [List.take_succ_eq_append_getElem hlt, List.foldl_append, ← hs, List.getD_eq_getElem?_getD, List.getElem?_eq_getElem hlt]; rfl
      obtain ⟨k, n, ch, hch⟩ : ∃ k n ch, l.getD i default = .mk k n ch := by cases l.getD i default with | mk k n ch => exact ⟨_, _, _, rfl⟩
      have hsz := sz_in d ch
      by_cases h14 : s ≤ 14
      · rw [hch, szStep, if_pos h14] at htk
        rw [hch] at hat
        have hx := hX ch
        simp (disch := omega) only [go_sem, ↓IntWalk.iteOmega, IntWalk.toNatUp, Nat.reduceEqDiff, Nat.reduceAdd, Nat.reduceMul, Nat.reduceSub, Nat.reduceLT, Nat.reduceLeDiff, Int.reduceToNat, Int.reduceLT, Int.reduceLE, Int.reduceEq, Int.reduceAdd, Int.reduceSub, Int.reduceMul, Int.toNat_natCast, reduceCtorEq, decide_true, decide_false, IntWalk.i64_in, IntWalk.u64_in, IntWalk.u8_in, h0, h1, h5, h6, hat, hx, hi6]
        exact ⟨_, by omega, i + 1, _, by omega, rfl, rfl, rfl, by rw [htk]; rfl, by omega, by omega⟩
      · simp (disch := omega) only [go_sem, ↓IntWalk.iteOmega, IntWalk.toNatUp, Nat.reduceEqDiff, Nat.reduceAdd, Nat.reduceMul, Nat.reduceSub, Nat.reduceLT, Nat.reduceLeDiff, Int.reduceToNat, Int.reduceLT, Int.reduceLE, Int.reduceEq, Int.reduceAdd, Int.reduceSub, Int.reduceMul, Int.toNat_natCast, reduceCtorEq, decide_true, decide_false, IntWalk.i64_in, IntWalk.u64_in, IntWalk.u8_in, h0, h1, h5, h6]
        rw [szD, hend i, ← hs, sz_stuck h14]
    · simp (disch := omega) only [go_sem, ↓IntWalk.iteOmega, IntWalk.toNatUp, Nat.reduceEqDiff, Nat.reduceAdd, Nat.reduceMul, Nat.reduceSub, Nat.reduceLT, Nat.reduceLeDiff, Int.reduceToNat, Int.reduceLT, Int.reduceLE, Int.reduceEq, Int.reduceAdd, Int.reduceSub, Int.reduceMul, Int.toNat_natCast, reduceCtorEq, decide_true, decide_false, IntWalk.i64_in, IntWalk.u64_in, IntWalk.u8_in, h0, h1, h5, h6]
      rw [szD, hend i, ← hs, List.drop_of_length_le (by omega)]
      rfl
def fewR (l : List Rw) : Bool := decide (szD 7 l ≤ 14)
theorem lookFew4 (X) : lookedAt (EX md0 X) (fun _ => none) 1 Tryd.f24 = true := by kernel_rfl
theorem few4_ok (l : List Rw) : Ok Tryd.prog 24 [slR l] (.bool (fewR l)) := by
  refine ok_of_WP (E := EX md0 (tabLook [(39, tRel (RSize 7))])) (cr := noR) (tab_cons (tab_nil _) (tRel_ok (fun args r h => by obtain ⟨l, rfl, rfl⟩ := h; exact size_ok 7 l (by omega)))) (noR_ok _) mixed (k := 0) Tryd.func24 (lookFew4 _) rfl ?_
  have hX : tabLook [(39, tRel (RSize 7))] 39 [.sl l.length (cRws l), .int .i64 0] = some (.int .i64 (szD 7 l)) := tRel_eq (RSize_fn 7) ⟨l, rfl, rfl⟩
  simp only [Tryd.f24, Option.getD_some]
  simp (disch := omega) only [go_sem, ↓IntWalk.iteOmega, IntWalk.toNatUp, Nat.reduceEqDiff, Nat.reduceAdd, Nat.reduceMul, Nat.reduceSub, Nat.reduceLT, Nat.reduceLeDiff, Int.reduceToNat, Int.reduceLT, Int.reduceLE, Int.reduceEq, Int.reduceAdd, Int.reduceSub, Int.reduceMul, Int.toNat_natCast, reduceCtorEq, decide_true, decide_false, IntWalk.i64_in, IntWalk.u64_in, IntWalk.u8_in, hX]
  rfl
def oneN (l : List Rw) : Nd := match l with | [] => .mk 1 1 0 0 [] | r :: _ => makeN r
def RMakeN (args : List AV) (r : AV) : Prop := ∃ x, args = [rawV x] ∧ r = nodeV (makeN x)
theorem RMakeN_fn : Fun1 RMakeN := by
  rintro args r r' ⟨i, rfl, rfl⟩ ⟨j, h, rfl⟩
  simp only [List.cons.injEq, AV.agg.injEq, and_true] at h
  rw [cRw_inj h]
theorem lookOne (X) : lookedAt (EX md0 X) (fun _ => none) 1 Tryd.f25 = true := by kernel_rfl
theorem one_ok (l : List Rw) : Ok Tryd.prog 25 [slR l] (nodeV (oneN l)) := by
  refine ok_of_WP (E := EX md0 (tabLook [(40, tRel RMakeN)])) (cr := noR) (tab_cons (tab_nil _) (tRel_ok (fun args r h => by obtain ⟨l, rfl, rfl⟩ := h; exact rmake_ok l))) (noR_ok _) mixed (k := 0) Tryd.func25 (lookOne _) rfl ?_
  simp only [Tryd.f25, Option.getD_some]
  cases l with
  | nil =>
    simp (disch := omega) only [go_sem, ↓IntWalk.iteOmega, IntWalk.toNatUp, Nat.reduceEqDiff, Nat.reduceAdd, Nat.reduceMul, Nat.reduceSub, Nat.reduceLT, Nat.reduceLeDiff, Int.reduceToNat, Int.reduceLT, Int.reduceLE, Int.reduceEq, Int.reduceAdd, Int.reduceSub, Int.reduceMul, Int.toNat_natCast, reduceCtorEq, decide_true, decide_false, IntWalk.i64_in, IntWalk.u64_in, IntWalk.u8_in]
    simp only [nodeV, oneN, cNd_mk, slN, cNds_nil, List.length_nil]
  | cons r l =>
    have hX : tabLook [(40, tRel RMakeN)] 40 [.agg (cRw r)] = some (nodeV (makeN r)) := tRel_eq RMakeN_fn ⟨r, rfl, rfl⟩
    have hat := cRws_cons r l
    simp (disch := omega) only [go_sem, ↓IntWalk.iteOmega, IntWalk.toNatUp, Nat.reduceEqDiff, Nat.reduceAdd, Nat.reduceMul, Nat.reduceSub, Nat.reduceLT, Nat.reduceLeDiff, Int.reduceToNat, Int.reduceLT, Int.reduceLE, Int.reduceEq, Int.reduceAdd, Int.reduceSub, Int.reduceMul, Int.toNat_natCast, reduceCtorEq, decide_true, decide_false, IntWalk.i64_in, IntWalk.u64_in, IntWalk.u8_in, hX, hat]
    rfl
end Go.Proofs.YthhfjjnhkifbfaaDoor.A
/- The builder: what it makes; its small methods. -/
namespace Go.Proofs.YthhfjjnhkifbfaaDoor.A
open Go
set_option maxRecDepth 20000
structure BS where
  n : Nat
  s : List (Int × Int × Int)
  f : List (Int × Int)
abbrev BF := BS → (Int × Int) × BS
def BS.state (b : BS) : BS := { b with n := b.n + 1 }
def BS.free (b : BS) (x y : Int) : BS := { b with f := b.f ++ [(x, y)] }
def BS.frees (b : BS) (l : List (Int × Int)) : BS := { b with f := b.f ++ l }
def BS.step (b : BS) (x y v : Int) : BS := { b with s := b.s ++ [(x, y, v)] }
def bParts : List BF → BS → List (Int × Int) → List (Int × Int) × BS
  | [], b, out => (out, b)
  | f :: fs, b, out => if b.n > 1000 then ([], b) else bParts fs (f b).2 (out ++ [(f b).1])
def bOnce (f : BF) (around back : Bool) (b : BS) : (Int × Int) × BS :=
  let r := f b.state
  ((b.n, r.2.n), r.2.state.frees ([((b.n : Int), r.1.1)] ++ (if around then [((b.n : Int), (r.2.n : Int))] else []) ++ (if back then [(r.1.2, r.1.1)] else []) ++ [(r.1.2, (r.2.n : Int))]))
def links : List (Int × Int) → List (Int × Int)
  | p :: q :: l => (p.2, q.1) :: links (q :: l)
  | _ => []
def bJoin (fs : List BF) (b : BS) : (Int × Int) × BS :=
  let r := bParts fs b []
  if r.2.n > 1000 ∨ r.1 = [] then ((0, 0), r.2) else (((r.1.headD (0, 0)).1, (r.1.getLastD (0, 0)).2), r.2.frees (links r.1))
def bUnion (fs : List BF) (b : BS) : (Int × Int) × BS :=
  let r := bParts fs b.state []
  ((b.n, r.2.n), r.2.state.frees (r.1.flatMap fun p => [((b.n : Int), p.1), (p.2, (r.2.n : Int))]))
/-- What leads on from the parts of a times, from the i-th one on. -/
def rLinks (lo : Int) (e : Int) : Nat → List (Int × Int) → List (Int × Int)
  | _, [] => []
  | _, [p] => [(p.2, e)]
  | i, p :: q :: l => (if (i : Int) + 1 ≥ lo then [(p.2, e)] else []) ++ (p.2, q.1) :: rLinks lo e (i + 1) (q :: l)
def headL (n : Int) : List (Int × Int) → List (Int × Int)
  | [] => []
  | p :: _ => [(n, p.1)]
def bRepeat (lo : Int) (hi : Nat) (f : BF) (b : BS) : (Int × Int) × BS :=
  let r := bParts (List.replicate hi f) b.state []
  if r.2.state.n > 1000 then ((b.n, r.2.n), r.2.state)
  else ((b.n, r.2.n), r.2.state.frees (headL b.n r.1 ++ rLinks lo r.2.n 0 r.1 ++ (if lo = 0 then [((b.n : Int), (r.2.n : Int))] else [])))
def bLeaf (kind set : Int) (b : BS) : (Int × Int) × BS :=
  ((b.n, b.n + 1), if kind = 1 then b.state.state.step b.n (b.n + 1) set else if kind = 3 then b.state.state.free b.n (b.n + 1) else b.state.state)
def bNode (kind set lo hi : Int) (fs : List BF) : BF :=
  if kind = 4 then bJoin fs
  else if kind = 5 then bUnion fs
  else if kind = 6 then bOnce (fs.headD (fun b => ((0, 0), b))) true true
  else if kind = 7 then bOnce (fs.headD (fun b => ((0, 0), b))) false true
  else if kind = 8 then bOnce (fs.headD (fun b => ((0, 0), b))) true false
  else if kind = 9 then bRepeat lo hi.toNat (fs.headD (fun b => ((0, 0), b)))
  else bLeaf kind set
mutual
def bPart : Nd → BF
  | .mk kind set lo hi l => bNode kind set lo hi (bPartL l)
def bPartL : List Nd → List BF
  | [] => []
  | x :: l => bPart x :: bPartL l
end
/-! ### the builder's row -/
/-- What stays. -/
def BKeep (t : Nat) (o : Ob) (nx : Nat) (o' : Ob) : Prop := ∀ i j, i < nx → (j = 8 → i ≠ t) → j ≠ 139 → j ≠ 16 → o' (i, j) = o (i, j)
theorem BKeep.refl (t o nx) : BKeep t o nx o := fun _ _ _ _ _ _ => rfl
theorem BKeep.trans {t o nx o' nx' o''} (h1 : BKeep t o nx o') (h2 : BKeep t o' nx' o'') (h : nx ≤ nx') : BKeep t o nx o'' := fun i j a b c d => by rw [h2 i j (by omega) b c d, h1 i j a b c d]
abbrev bp (t : Nat) : AV := .ptr (t, 8) (t, 8) 0
theorem bkeep_upd {t : Nat} {o : Ob} {nx : Nat} {x : AObj} : BKeep t o nx (upd o (t, 8) x) := fun i j hi h1 h2 h3 => upd_ne _ _ _ _ (fun e => by injection e with e1 e2; exact h1 e2 e1)
theorem HS.same {e sz D o nx v n cs n' cs'} (h : HS e sz D o nx v n cs) (h' : HS e sz D o nx v n' cs') : cs = cs' := by
  rcases h with ⟨rfl, rfl, rfl⟩ | ⟨i, g, rfl, _, h3, _⟩
  · rcases h' with ⟨_, _, rfl⟩ | ⟨_, _, h, _⟩
    · rfl
    · cases h
  · rcases h' with ⟨h, _⟩ | ⟨_, _, h, _, h3', _⟩
    · cases h
    · injection h with h1 h2
      rw [← h1, ← h2, h3] at h3'
      simp only [Option.some.injEq, AObj.row.injEq, Row.mk.injEq, true_and] at h3'
      exact h3'
end Go.Proofs.YthhfjjnhkifbfaaDoor.A
/- The builder: its bounds. -/
namespace Go.Proofs.YthhfjjnhkifbfaaDoor.A
open Go
set_option maxRecDepth 20000
structure Bd (h : Nat) (f : BF) (b : BS) : Prop where
  lo : b.n ≤ (f b).2.n
  hi : (f b).2.n ≤ max b.n 1000 + 2 * h
  f4 : (f b).2.f.length + 4 * b.n ≤ b.f.length + 4 * (f b).2.n
  s1 : (f b).2.s.length + b.n ≤ b.s.length + (f b).2.n
  str : b.n ≤ 1000 → (f b).2.f.length + 4 * b.n + 4 ≤ b.f.length + 4 * (f b).2.n
structure BdL (h : Nat) (k : Nat) (b : BS) (out : List (Int × Int)) (r : List (Int × Int) × BS) : Prop where
  lo : b.n ≤ r.2.n
  hi : r.2.n ≤ max b.n (1000 + 2 * h)
  f4 : r.2.f.length + 4 * b.n ≤ b.f.length + 4 * r.2.n
  s1 : r.2.s.length + b.n ≤ b.s.length + r.2.n
  str : r.1 = [] ∨ (r.1.length = out.length + k ∧ r.2.f.length + 4 * b.n + 4 * k ≤ b.f.length + 4 * r.2.n)
  str1 : b.n ≤ 1000 → 0 < k → r.2.f.length + 4 * b.n + 4 ≤ b.f.length + 4 * r.2.n
theorem parts_bd {h : Nat} : ∀ (fs : List BF) (b : BS) (out : List (Int × Int)), (∀ f ∈ fs, ∀ b, Bd h f b) → BdL h fs.length b out (bParts fs b out)
  | [], b, out, _ => ⟨Nat.le_refl _, by show b.n ≤ _; omega, Nat.le_refl _, Nat.le_refl _, .inr ⟨rfl, Nat.le_refl _⟩, fun _ h => absurd h (by simp)⟩
  | f :: fs, b, out, hf => by
    unfold bParts
    split
    · exact ⟨Nat.le_refl _, by show b.n ≤ _; omega, Nat.le_refl _, Nat.le_refl _, .inl rfl, fun h => absurd h (by omega)⟩
    · rename_i hn
      have h1 := hf f (List.mem_cons_self) b
      have h2 := parts_bd fs (f b).2 (out ++ [(f b).1]) (fun g hg => hf g (List.mem_cons_of_mem _ hg))
      have h3 := h1.str (by omega)
      refine ⟨Nat.le_trans h1.lo h2.lo, ?_, ?_, ?_, ?_, fun _ _ => by have := h2.f4; omega⟩
      · have := h2.hi; have := h1.hi; omega
      · have := h2.f4; have := h1.f4; omega
      · have := h2.s1; have := h1.s1; omega
      · rcases h2.str with e | ⟨e1, e2⟩
        · exact .inl e
        · refine .inr ⟨by rw [e1]; simp; omega, ?_⟩
          rw [List.length_cons]
          omega
theorem once_bd {h : Nat} {f : BF} (hf : ∀ b, Bd h f b) (x y : Bool) (b : BS) : Bd (h + 1) (bOnce f x y) b := by
  have h1 := hf b.state
  have e1 : (bOnce f x y b).2.n = (f b.state).2.n + 1 := rfl
  have e2 : (bOnce f x y b).2.f.length ≤ (f b.state).2.f.length + 4 := by
    show List.length (_ ++ _) ≤ _
    simp only [List.length_append, List.length_cons, List.length_nil]
    cases x <;> cases y <;> simp [BS.state]
  have e3 : (bOnce f x y b).2.s.length = (f b.state).2.s.length := rfl
  have e4 : b.state.n = b.n + 1 := rfl
  have e5 : b.state.f.length = b.f.length := rfl
  have e6 : b.state.s.length = b.s.length := rfl
  have := h1.lo; have := h1.hi; have := h1.f4; have := h1.s1
  exact ⟨by omega, by omega, by omega, by omega, fun _ => by omega⟩
theorem links_len : ∀ l : List (Int × Int), (links l).length = l.length - 1
  | [] => rfl
  | [_] => rfl
  | p :: q :: l => by rw [links, List.length_cons, links_len (q :: l)]; simp
theorem rLinks_len (lo e : Int) : ∀ (i : Nat) (l : List (Int × Int)), (rLinks lo e i l).length ≤ 2 * l.length
  | _, [] => by simp [rLinks]
  | _, [_] => by simp [rLinks]
  | i, p :: q :: l => by
    have := rLinks_len lo e (i + 1) (q :: l)
    rw [rLinks, List.length_append, List.length_cons]
    simp only [List.length_cons] at this ⊢
    split <;> simp <;> omega
theorem join_bd {h : Nat} {fs : List BF} (hf : ∀ f ∈ fs, ∀ b, Bd h f b) (h0 : 0 < fs.length) (h1 : 1 ≤ h) (b : BS) : Bd (h + 1) (bJoin fs) b := by
  have hp := parts_bd fs b [] hf
  have := hp.lo; have := hp.hi; have := hp.f4; have := hp.s1
  have key : (bJoin fs b).2.n = (bParts fs b []).2.n ∧ (bJoin fs b).2.s = (bParts fs b []).2.s ∧ ((bJoin fs b).2.f.length = (bParts fs b []).2.f.length ∧ ((bParts fs b []).1 = [] ∨ 1000 < (bParts fs b []).2.n) ∨ (bParts fs b []).1 ≠ [] ∧ (bJoin fs b).2.f.length = (bParts fs b []).2.f.length + ((bParts fs b []).1.length - 1)) := by
    unfold bJoin
    dsimp only
    split
    · rename_i h; exact ⟨rfl, rfl, .inl ⟨rfl, h.symm⟩⟩
    · rename_i h
      refine ⟨rfl, rfl, .inr ⟨fun e => h (.inr e), ?_⟩⟩
      show List.length (_ ++ _) = _
      rw [List.length_append, links_len]
  obtain ⟨k1, k2, k3⟩ := key
  have hs : (bJoin fs b).2.s.length = (bParts fs b []).2.s.length := by rw [k2]
  refine ⟨by omega, by omega, ?_, by omega, fun hb => ?_⟩
  · rcases k3 with ⟨e, _⟩ | ⟨e, e'⟩
    · omega
    · rcases hp.str with e1 | ⟨e1, e2⟩
      · exact absurd e1 e
      · simp only [List.length_nil] at e1
        omega
  · rcases k3 with ⟨e, _⟩ | ⟨e, e'⟩
    · have := hp.str1 hb h0
      omega
    · rcases hp.str with e1 | ⟨e1, e2⟩
      · exact absurd e1 e
      · simp only [List.length_nil] at e1
        omega
theorem union_len (n e : Int) (l : List (Int × Int)) : (l.flatMap fun p => [(n, p.1), (p.2, e)]).length = 2 * l.length := by
  induction l with
  | nil => rfl
  | cons p l ih => rw [List.flatMap_cons, List.length_append, ih]; simp; omega
theorem union_bd {h : Nat} {fs : List BF} (hf : ∀ f ∈ fs, ∀ b, Bd h f b) (b : BS) : Bd (h + 1) (bUnion fs) b := by
  have hp := parts_bd fs b.state [] hf
  have := hp.lo; have := hp.hi; have := hp.f4; have := hp.s1
  have e1 : (bUnion fs b).2.n = (bParts fs b.state []).2.n + 1 := rfl
  have e2 : (bUnion fs b).2.f.length = (bParts fs b.state []).2.f.length + 2 * (bParts fs b.state []).1.length := by
    show List.length (_ ++ _) = _
    rw [List.length_append, union_len]; rfl
  have e3 : (bUnion fs b).2.s.length = (bParts fs b.state []).2.s.length := rfl
  have e4 : b.state.n = b.n + 1 := rfl
  have e5 : b.state.f.length = b.f.length := rfl
  have e6 : b.state.s.length = b.s.length := rfl
  have hl : (bUnion fs b).2.f.length + 4 * (b.n + 1) ≤ b.f.length + 4 * (bParts fs b.state []).2.n := by
    rcases hp.str with e | ⟨e, e'⟩
    · rw [e] at e2; simp only [List.length_nil] at e2; omega
    · simp only [List.length_nil] at e; omega
  exact ⟨by omega, by omega, by omega, by omega, fun _ => by omega⟩
theorem repeat_bd {h : Nat} {f : BF} (hf : ∀ b, Bd h f b) (lo : Int) (hi : Nat) (b : BS) : Bd (h + 1) (bRepeat lo hi f) b := by
  have hp := parts_bd (List.replicate hi f) b.state [] (fun g hg => by rw [List.eq_of_mem_replicate hg]; exact hf)
  have := hp.lo; have := hp.hi; have := hp.f4; have := hp.s1
  have e4 : b.state.n = b.n + 1 := rfl
  have e5 : b.state.f.length = b.f.length := rfl
  have e6 : b.state.s.length = b.s.length := rfl
  have key : (bRepeat lo hi f b).2.n = (bParts (List.replicate hi f) b.state []).2.n + 1 ∧ (bRepeat lo hi f b).2.s = (bParts (List.replicate hi f) b.state []).2.s ∧ ((bRepeat lo hi f b).2.f = (bParts (List.replicate hi f) b.state []).2.f ∨ (bRepeat lo hi f b).2.f.length ≤ (bParts (List.replicate hi f) b.state []).2.f.length + 2 + 2 * (bParts (List.replicate hi f) b.state []).1.length) := by
    unfold bRepeat
    dsimp only
    split
    · exact ⟨rfl, rfl, .inl rfl⟩
    · refine ⟨rfl, rfl, .inr ?_⟩
      show List.length (_ ++ _) ≤ _
      have := rLinks_len lo (bParts (List.replicate hi f) b.state []).2.n 0 (bParts (List.replicate hi f) b.state []).1
      simp only [List.length_append]
      have h1 : (headL b.n (bParts (List.replicate hi f) b.state []).1).length ≤ 1 := by unfold headL; split <;> simp
      have h2 : (if lo = 0 then [((b.n : Int), ((bParts (List.replicate hi f) b.state []).2.n : Int))] else []).length ≤ 1 := by split <;> simp
      have h3 : (bParts (List.replicate hi f) b.state []).2.state.f = (bParts (List.replicate hi f) b.state []).2.f := rfl
      rw [h3]
      omega
  obtain ⟨k1, k2, k3⟩ := key
  have hs : (bRepeat lo hi f b).2.s.length = (bParts (List.replicate hi f) b.state []).2.s.length := by rw [k2]
  have hl : (bRepeat lo hi f b).2.f.length + 4 * (b.n + 1) ≤ b.f.length + 4 * (bParts (List.replicate hi f) b.state []).2.n + 2 := by
    rcases k3 with e | e
    · rw [e]; omega
    · rcases hp.str with e1 | ⟨e1, e'⟩
      · rw [e1] at e; simp only [List.length_nil] at e; omega
      · simp only [List.length_nil] at e1; omega
  exact ⟨by omega, by omega, by omega, by omega, fun _ => by omega⟩
theorem leaf_bd (kind set : Int) (h : Nat) (b : BS) : Bd (h + 1) (bLeaf kind set) b := by
  unfold bLeaf
  have e1 : b.state.state.n = b.n + 2 := rfl
  have e2 : b.state.state.f = b.f := rfl
  have e3 : b.state.state.s = b.s := rfl
  have e4 : ∀ x y v, (b.state.state.step x y v).s.length = b.s.length + 1 := fun x y v => by show List.length (_ ++ _) = _; rw [List.length_append]; rfl
  have e5 : ∀ x y, (b.state.state.free x y).f.length = b.f.length + 1 := fun x y => by show List.length (_ ++ _) = _; rw [List.length_append]; rfl
  have e6 : ∀ x y v, (b.state.state.step x y v).n = b.n + 2 := fun x y v => rfl
  have e7 : ∀ x y v, (b.state.state.step x y v).f = b.f := fun x y v => rfl
  have e8 : ∀ x y, (b.state.state.free x y).n = b.n + 2 := fun x y => rfl
  have e9 : ∀ x y, (b.state.state.free x y).s = b.s := fun x y => rfl
  refine ⟨?_, ?_, ?_, ?_, fun _ => ?_⟩ <;> dsimp only <;> split <;> (try split) <;> simp only [e1, e2, e3, e4, e5, e6, e7, e8, e9] <;> omega
mutual
def hN : Nd → Nat
  | .mk _ _ _ _ l => hNs l + 1
def hNs : List Nd → Nat
  | [] => 0
  | x :: l => max (hN x) (hNs l)
end
mutual
/-- What may be built. -/
def okN : Nd → Bool
  | .mk kind _ lo hi l => okNs l && (if kind = 4 ∨ kind = 5 ∨ kind = 6 ∨ kind = 7 ∨ kind = 8 then decide (0 < l.length ∧ l.length ≤ 10) else if kind = 9 then decide (0 < l.length ∧ l.length ≤ 10 ∧ 0 ≤ lo ∧ lo ≤ hi ∧ hi ≤ 10) else true)
def okNs : List Nd → Bool
  | [] => true
  | x :: l => okN x && okNs l
end
theorem Bd.mono {h h' f b} (hb : Bd h f b) (hh : h ≤ h') : Bd h' f b := ⟨hb.lo, by have := hb.hi; omega, hb.f4, hb.s1, hb.str⟩
theorem hN_pos (x) : 1 ≤ hN x := by cases x; rw [hN]; omega
theorem bPartL_length (l) : (bPartL l).length = l.length := by
  induction l with
  | nil => rw [bPartL]; rfl
  | cons x l ih => rw [bPartL, List.length_cons, ih, List.length_cons]
mutual
theorem part_bd : ∀ (x : Nd), okN x = true → ∀ b, Bd (hN x) (bPart x) b
  | .mk kind set lo hi l, hk, b => by
    rw [okN, Bool.and_eq_true] at hk
    obtain ⟨hk1, hk2⟩ := hk
    have hl := parts_bd' l hk1
    rw [bPart, hN]
    have hd : 0 < l.length → ∀ b, Bd (hNs l) ((bPartL l).headD fun b => ((0, 0), b)) b := fun h b => by
      cases l with
      | nil => exact absurd h (by simp)
      | cons x l => exact hl _ (by rw [bPartL]; exact List.mem_cons_self) b
    have h1 : 0 < l.length → 1 ≤ hNs l := fun h => by
      cases l with
      | nil => exact absurd h (by simp)
      | cons x l => have := hN_pos x; rw [hNs]; omega
    unfold bNode
    by_cases k4 : kind = 4
    · rw [if_pos k4]
      rw [if_pos (.inl k4), decide_eq_true_eq] at hk2
      exact join_bd hl (by rw [bPartL_length]; exact hk2.1) (h1 hk2.1) b
    by_cases k5 : kind = 5
    · rw [if_neg k4, if_pos k5]
      exact union_bd hl b
    by_cases k6 : kind = 6
    · rw [if_neg k4, if_neg k5, if_pos k6]
      rw [if_pos (.inr (.inr (.inl k6))), decide_eq_true_eq] at hk2
      exact once_bd (hd hk2.1) _ _ b
    by_cases k7 : kind = 7
    · rw [if_neg k4, if_neg k5, if_neg k6, if_pos k7]
      rw [if_pos (.inr (.inr (.inr (.inl k7)))), decide_eq_true_eq] at hk2
      exact once_bd (hd hk2.1) _ _ b
    by_cases k8 : kind = 8
    · rw [if_neg k4, if_neg k5, if_neg k6, if_neg k7, if_pos k8]
      rw [if_pos (.inr (.inr (.inr (.inr k8)))), decide_eq_true_eq] at hk2
      exact once_bd (hd hk2.1) _ _ b
    by_cases k9 : kind = 9
    · rw [if_neg k4, if_neg k5, if_neg k6, if_neg k7, if_neg k8, if_pos k9]
      rw [if_neg (by omega), if_pos k9, decide_eq_true_eq] at hk2
      exact repeat_bd (hd hk2.1) _ _ b
    rw [if_neg k4, if_neg k5, if_neg k6, if_neg k7, if_neg k8, if_neg k9]
    exact leaf_bd _ _ _ b
theorem parts_bd' : ∀ (l : List Nd), okNs l = true → ∀ f ∈ bPartL l, ∀ b, Bd (hNs l) f b
  | [], _, f, hf, b => by rw [bPartL] at hf; cases hf
  | x :: l, hk, f, hf, b => by
    rw [okNs, Bool.and_eq_true] at hk
    rw [bPartL] at hf
    rw [hNs]
    rcases List.mem_cons.1 hf with rfl | hf
    · exact (part_bd x hk.1 b).mono (by omega)
    · exact (parts_bd' l hk.2 f hf b).mono (by omega)
end
end Go.Proofs.YthhfjjnhkifbfaaDoor.A
/- The builder: parts. -/
namespace Go.Proofs.YthhfjjnhkifbfaaDoor.A
open Go
set_option maxRecDepth 20000
abbrev bE (p : Int × Int) : AV := .agg [.int .i64 p.1, .int .i64 p.2]
/-- A row of parts: as data, or in memory. -/
def NdsAt (o : Ob) (nx : Nat) (v : AV) (l : List Nd) : Prop := v = slN l ∨ HS 54 5 17 o nx v l.length (cNds l)
structure Pre (h : Nat) (b : BS) : Prop where
  f : b.f.length ≤ 4 * b.n
  s : b.s.length ≤ b.n
  n : b.n + 2 * h ≤ 100000
theorem NdsAt.new {o nx v l} (h : NdsAt o nx v l) {o' : Ob} {nx' : Nat} (ho : ∀ i j, i < nx → o' (i, j) = o (i, j)) (hn : nx ≤ nx') : NdsAt o' nx' v l := by
  rcases h with h | h
  · exact .inl h
  · exact .inr (h.keep (fun i hi => ho i 17 hi) hn)
theorem BKeep.new {t o nx o'} (ho : ∀ i j, i < nx → o' (i, j) = o (i, j)) : BKeep t o nx o' := fun i j hi _ _ _ => ho i j hi
theorem NdsAt.keep {o nx v l} (h : NdsAt o nx v l) {t o' nx'} (hk : BKeep t o nx o') (hn : nx ≤ nx') : NdsAt o' nx' v l := by
  rcases h with h | h
  · exact .inl h
  · exact .inr (h.keep (fun i hi => hk i 17 hi (fun e => absurd e (by decide)) (by decide) (by decide)) hn)
theorem bPartL_drop {l : List Nd} {i : Nat} (h : i < l.length) : bPartL (l.drop i) = bPart (l.getD i default) :: bPartL (l.drop (i + 1)) := by
  rw [List.drop_eq_getElem_cons h, bPartL, List.getD_eq_getElem?_getD, List.getElem?_eq_getElem h]
  rfl
theorem okNs_get {l : List Nd} (hk : okNs l = true) {i : Nat} (h : i < l.length) : okN (l.getD i default) = true ∧ hN (l.getD i default) ≤ hNs l := by
  induction l generalizing i with
  | nil => simp at h
  | cons x l ih =>
    rw [okNs, Bool.and_eq_true] at hk
    rw [hNs]
    cases i with
    | zero => exact ⟨hk.1, by show hN x ≤ _; omega⟩
    | succ i =>
      have := ih hk.2 (by simpa using h)
      exact ⟨this.1, by have := this.2; show hN (l.getD i default) ≤ _; omega⟩
theorem nd_mem {l : List Nd} {i : Nat} (h : i < l.length) : l.getD i default ∈ l := by
  rw [List.getD_eq_getElem?_getD, List.getElem?_eq_getElem h]
  exact List.getElem_mem h
theorem bParts_cons (f : BF) (fs b out) : bParts (f :: fs) b out = if b.n > 1000 then ([], b) else bParts fs (f b).2 (out ++ [(f b).1]) := by rw [bParts]
theorem NdsAt.same {o nx v l l'} (h : NdsAt o nx v l) (h' : NdsAt o nx v l') : l = l' := by
  rcases h with rfl | h
  · rcases h' with h' | ⟨h', _⟩ | ⟨_, _, h', _⟩
    · injection h' with _ h'
      exact cNds_inj h'
    · cases h'
    · cases h'
  · rcases h' with rfl | h'
    · rcases h with ⟨h, _⟩ | ⟨_, _, h, _⟩ <;> cases h
    · exact cNds_inj (h.same h')
end Go.Proofs.YthhfjjnhkifbfaaDoor.A
/- The builder: once, repeat. -/
namespace Go.Proofs.YthhfjjnhkifbfaaDoor.A
open Go
set_option maxRecDepth 20000
theorem BS.state_f (b : BS) : b.state.f = b.f := rfl
theorem BS.free_f (b : BS) (x y : Int) : (b.free x y).f = b.f ++ [(x, y)] := rfl
end Go.Proofs.YthhfjjnhkifbfaaDoor.A
/- The builder: repeat. UNDER WAY. -/
namespace Go.Proofs.YthhfjjnhkifbfaaDoor.A
open Go
set_option maxRecDepth 20000
theorem frees_nil (b : BS) : b.frees [] = b := by cases b; simp [BS.frees]
theorem frees_cons (b : BS) (x y : Int) (l) : b.frees ((x, y) :: l) = (b.free x y).frees l := by simp [BS.frees, BS.free]
theorem frees_app (b : BS) (k l) : b.frees (k ++ l) = (b.frees k).frees l := by simp [BS.frees]
theorem getD_drop {α : Type} (l : List α) (d : α) {i : Nat} (h : i < l.length) : l.drop i = l.getD i d :: l.drop (i + 1) := by
  rw [List.drop_eq_getElem_cons h, List.getD_eq_getElem?_getD, List.getElem?_eq_getElem h]; rfl
theorem rLinks_last {lo e : Int} {p : List (Int × Int)} {i : Nat} (h : i + 1 = p.length) : rLinks lo e i (p.drop i) = [((p.getD i (0, 0)).2, e)] ∧ p.drop (i + 1) = [] := by
  have e1 : p.drop (i + 1) = [] := List.drop_of_length_le (by omega)
  rw [getD_drop p (0, 0) (show i < p.length by omega), e1]
  exact ⟨by rw [rLinks], rfl⟩
theorem rLinks_next {lo e : Int} {p : List (Int × Int)} {i : Nat} (h : i + 1 < p.length) : rLinks lo e i (p.drop i) = (if (i : Int) + 1 ≥ lo then [((p.getD i (0, 0)).2, e)] else []) ++ ((p.getD i (0, 0)).2, (p.getD (i + 1) (0, 0)).1) :: rLinks lo e (i + 1) (p.drop (i + 1)) := by
  rw [getD_drop p (0, 0) (show i < p.length by omega), getD_drop p (0, 0) h, rLinks]
theorem BKeep.row {t o nx o'} (h : BKeep t o nx o') {i j : Nat} {x : Option AObj} (hx : o (i, j) = x) (hi : i < nx) (h1 : j = 8 → i ≠ t) (h2 : j ≠ 139) (h3 : j ≠ 16) : o' (i, j) = x := (h i j hi h1 h2 h3).trans hx
end Go.Proofs.YthhfjjnhkifbfaaDoor.A
/- The builder: repeat's walk. -/
namespace Go.Proofs.YthhfjjnhkifbfaaDoor.A
open Go
set_option maxRecDepth 20000
theorem bPartL_rep (x : Nd) (n : Nat) : bPartL (List.replicate n x) = List.replicate n (bPart x) := by
  induction n with
  | zero => rw [List.replicate_zero, bPartL]; rfl
  | succ n ih => rw [List.replicate_succ, bPartL, ih, List.replicate_succ]
theorem okNs_rep {x : Nd} (h : okN x = true) (n : Nat) : okNs (List.replicate n x) = true := by
  induction n with
  | zero => rw [List.replicate_zero, okNs]
  | succ n ih => rw [List.replicate_succ, okNs, h, ih]; rfl
theorem hNs_rep (x : Nd) (n : Nat) : hNs (List.replicate n x) ≤ hN x := by
  induction n with
  | zero => rw [List.replicate_zero, hNs]; omega
  | succ n ih => rw [List.replicate_succ, hNs]; omega
end Go.Proofs.YthhfjjnhkifbfaaDoor.A
/- The builder: the loops of part. -/
namespace Go.Proofs.YthhfjjnhkifbfaaDoor.A
open Go
set_option maxRecDepth 20000
theorem links_next {p : List (Int × Int)} {i : Nat} (h : i + 1 < p.length) : links (p.drop i) = ((p.getD i (0, 0)).2, (p.getD (i + 1) (0, 0)).1) :: links (p.drop (i + 1)) := by
  rw [getD_drop p (0, 0) (show i < p.length by omega), getD_drop p (0, 0) h, links]
theorem links_last {p : List (Int × Int)} {i : Nat} (h : i + 1 = p.length) : links (p.drop i) = [] := by
  have e1 : p.drop (i + 1) = [] := List.drop_of_length_le (by omega)
  rw [getD_drop p (0, 0) (show i < p.length by omega), e1, links]
  intro _ _ _ h; cases h
def nzPart (id : Nat) : Option (List (Nat × Nat)) := if id = 33 then some [(5, 11)] else none
/-- What a union's parts add. -/
def uLinks (n e : Int) (l : List (Int × Int)) : List (Int × Int) := l.flatMap fun p => [(n, p.1), (p.2, e)]
end Go.Proofs.YthhfjjnhkifbfaaDoor.A
/- The builder: part, kind by kind. -/
namespace Go.Proofs.YthhfjjnhkifbfaaDoor.A
open Go
set_option maxRecDepth 20000
end Go.Proofs.YthhfjjnhkifbfaaDoor.A
/- The builder: part's leaves; part of any tree. -/
namespace Go.Proofs.YthhfjjnhkifbfaaDoor.A
open Go
set_option maxRecDepth 20000
end Go.Proofs.YthhfjjnhkifbfaaDoor.A
/- closing: the rows of free steps. -/
namespace Go.Proofs.YthhfjjnhkifbfaaDoor.A
open Go
set_option maxRecDepth 20000
abbrev nfaV (N S F : Int) (ss : List (Int × Int × Int)) (fs : List (Int × Int)) : AV := .agg [.int .i64 N, .int .i64 S, .int .i64 F, .sl ss.length (cS ss), .sl fs.length (cP fs)]
/-- Where free steps lead, state by state. -/
def rowAdd (rows : List (List Int)) (f : Int × Int) : List (List Int) := rows.set f.1.toNat (rows.getD f.1.toNat [] ++ [f.2])
def rowsOf (N : Nat) (fs : List (Int × Int)) : List (List Int) := fs.foldl rowAdd (List.replicate N [])
theorem rowsOf_snoc (N fs f) : rowsOf N (fs ++ [f]) = rowAdd (rowsOf N fs) f := by simp [rowsOf]
theorem rowsOf_length (N fs) : (rowsOf N fs).length = N := by
  have : ∀ (l : List (Int × Int)) (rows : List (List Int)), (l.foldl rowAdd rows).length = rows.length := fun l => by
    induction l with
    | nil => intro; rfl
    | cons f l ih => intro rows; rw [List.foldl_cons, ih]; simp [rowAdd]
  rw [rowsOf, this]; simp
theorem rowsOf_le (N fs j) : ((rowsOf N fs).getD j []).length ≤ fs.length := by
  have : ∀ (l : List (Int × Int)) (rows : List (List Int)) (n : Nat), (∀ j, (rows.getD j []).length ≤ n) → ∀ j, ((l.foldl rowAdd rows).getD j []).length ≤ n + l.length := fun l => by
    induction l with
    | nil => intro rows n h j; simpa using h j
    | cons f l ih =>
      intro rows n h j
      have := ih (rowAdd rows f) (n + 1) (fun j => by
        unfold rowAdd
        by_cases hf : f.1.toNat < rows.length
        · rw [getD_set _ _ _ _ _ hf]
          split
          · have := h f.1.toNat; rw [List.length_append, List.length_singleton]; omega
          · have := h j; omega
        · rw [List.set_eq_of_length_le (by omega)]; have := h j; omega) j
      simp only [List.foldl_cons, List.length_cons]; omega
  have := this fs (List.replicate N []) 0 (fun j => by simp [List.getD, List.getElem?_replicate]; split <;> simp) j
  simpa [rowsOf] using this
def nz38 : Nat → Option (List (Nat × Nat))
  | 1 => some [(1, 4), (1, 6), (3, 6), (4, 6)]
  | 5 => some [(1, 12), (3, 12), (5, 12), (7, 12), (9, 12), (1, 13), (3, 13)]
  | _ => none
theorem closing_wp (md X cr k) (N : Nat) (S F : Int) (hN : N ≤ 1000) (ss fs) (hfs : fs.length ≤ 100000) (hk : fs.length < k) (hin : ∀ p ∈ fs, 0 ≤ p.1 ∧ p.1 < (N : Int)) :
    WP (EX md X) cr k nz38 (Tryd.f45.body.getD .skip) (begin_ [nfaV N S F ss fs]) (fun _ => none) 0 (fun u a o nx => u = .ret ∧ ∃ cs, NI 32 o nx cs (rowsOf N fs) ∧ a 2 = .ptr (0, 2) (0, 2) 0 ∧
      o (0, 2) = some (.row ⟨98, 1, (0, 2), false, true, [.int .i64 N, .ref (1, 10) (1, 10) 0 N]⟩) ∧ o (1, 10) = some (.row ⟨26, 1, (1, 10), false, true, cs⟩)) := by
  simp only [Tryd.f45, Option.getD_some]
  simp only [go_sem, ↓IntWalk.iteOmega, IntWalk.toNatUp, Nat.reduceEqDiff, Nat.reduceAdd, Nat.reduceMul, Nat.reduceSub, Nat.reduceLT, Nat.reduceLeDiff, Int.reduceToNat, Int.reduceLT, Int.reduceLE, Int.reduceEq, Int.reduceAdd, Int.reduceSub, Int.reduceMul, Int.toNat_natCast, reduceCtorEq, decide_true, decide_false, IntWalk.i64_in, IntWalk.u64_in, IntWalk.u8_in, nz38, begin_]
  refine WP_loop (fun m a o nx => ∃ i cs, i ≤ fs.length ∧ m = fs.length - i ∧ NI 32 o nx cs (rowsOf N (fs.take i)) ∧ 2 ≤ nx ∧ a 2 = .ptr (0, 2) (0, 2) 0 ∧ a 3 = .ptr (1, 3) (1, 3) 0 ∧ a 13 = .sl fs.length (cP fs) ∧ a 14 = .int .i64 fs.length ∧ a 15 = .int .i64 i ∧
      (∃ x, o (0, 2) = some (.row ⟨98, 1, (0, 2), false, true, x⟩) ∧ x.length = 2) ∧ o (1, 3) = some (.row ⟨98, 1, (1, 3), false, true, [.int .i64 N, .ref (1, 10) (1, 10) 0 N]⟩) ∧ o (1, 10) = some (.row ⟨26, 1, (1, 10), false, true, cs⟩)) fs.length hk ⟨0, List.replicate N .nil, ?_⟩ ?_
  · simp only [go_sem, ↓IntWalk.iteOmega, IntWalk.toNatUp, Nat.reduceEqDiff, Nat.reduceAdd, Nat.reduceMul, Nat.reduceSub, Nat.reduceLT, Nat.reduceLeDiff, Int.reduceToNat, Int.reduceLT, Int.reduceLE, Int.reduceEq, Int.reduceAdd, Int.reduceSub, Int.reduceMul, Int.toNat_natCast, reduceCtorEq, decide_true, decide_false, IntWalk.i64_in, IntWalk.u64_in, IntWalk.u8_in, rep_one, List.take_zero, Nat.sub_zero]
    exact ⟨by omega, NI.start _ _ _ N, ⟨_, rfl, rfl⟩⟩
  · rintro m a o nx ⟨i, cs, hi, rfl, hNI, hnx, h2, h3, h13, h14, h15, ⟨x, hx, hxl⟩, ho3, ho10⟩
    by_cases hlt : i < fs.length
    · obtain ⟨hf0, hfN⟩ := hin (fs.getD i (0, 0)) (by simp [List.getD, hlt])
      have hat := cP_at hlt
      have htake := take_succ_getD hlt (0, 0)
      generalize fs.getD i (0, 0) = f at hf0 hfN hat htake
      obtain ⟨f, t⟩ := f
      simp only at hf0 hfN hat htake
      obtain ⟨j, rfl⟩ := Int.eq_ofNat_of_zero_le hf0
      have hrl := rowsOf_length N (fs.take i)
      have hcl : cs.length = N := by rw [hNI.1, hrl]
      have hjN : j < cs.length := by omega
      have hH := hNI.2.1 j (by omega)
      have hget := cs_get (s := 1) hjN
      generalize hv : cs.getD j .nil = v at hH hget
      have hspl : ∀ v, splice cs j [v] = cs.set j v := fun v => splice_eq cs j v hjN
      have hnext : rowsOf N (fs.take (i + 1)) = (rowsOf N (fs.take i)).set j ((rowsOf N (fs.take i)).getD j [] ++ [t]) := by rw [htake, rowsOf_snoc]; rfl
      have hjr : j < (rowsOf N (fs.take i)).length := by omega
      rcases hH with ⟨rfl, e2, e3⟩ | ⟨i1, g, rfl, hi1, hrow, hlen⟩
      · simp (disch := omega) only [go_sem, ↓IntWalk.iteOmega, IntWalk.toNatUp, Nat.reduceEqDiff, Nat.reduceAdd, Nat.reduceMul, Nat.reduceSub, Nat.reduceLT, Nat.reduceLeDiff, Int.reduceToNat, Int.reduceLT, Int.reduceLE, Int.reduceEq, Int.reduceAdd, Int.reduceSub, Int.reduceMul, Int.toNat_natCast, reduceCtorEq, decide_true, decide_false, IntWalk.i64_in, IntWalk.u64_in, IntWalk.u8_in, nz38, h2, h3, h13, h14, h15, ho3, ho10, hat, hget, hspl, IntWalk.i64_in]
        have e4 : (rowsOf N (fs.take i)).getD j [] = [] := List.length_eq_zero_iff.1 e2
        refine ⟨_, ?_, i + 1, _, by omega, rfl, ?_, by simp, ⟨x, hx, hxl⟩, rfl⟩
        · omega
        · rw [hnext, e4]
          exact NI.set (l := [t]) hNI hjr rfl (by omega) (by omega) (.inl ⟨hv, by omega⟩) (fun i' _ h => by simp [upd_app, h]) (by simp [upd_app, cI])
      · have hle := rowsOf_le N (fs.take i) j
        have hlt' : (fs.take i).length ≤ fs.length := by simp; omega
        generalize (rowsOf N (fs.take i)).getD j [] = r at *
        simp (disch := omega) only [go_sem, ↓IntWalk.iteOmega, IntWalk.toNatUp, Nat.reduceEqDiff, Nat.reduceAdd, Nat.reduceMul, Nat.reduceSub, Nat.reduceLT, Nat.reduceLeDiff, Int.reduceToNat, Int.reduceLT, Int.reduceLE, Int.reduceEq, Int.reduceAdd, Int.reduceSub, Int.reduceMul, Int.toNat_natCast, reduceCtorEq, decide_true, decide_false, IntWalk.i64_in, IntWalk.u64_in, IntWalk.u8_in, nz38, h2, h3, h13, h14, h15, ho3, ho10, hat, hget, hrow, hspl, IntWalk.i64_in]
        refine ⟨_, ?_, i + 1, _, by omega, rfl, ?_, by simp, ⟨x, hx, hxl⟩, rfl⟩
        · omega
        · rw [hnext]
          exact NI.set (l := r ++ [t]) hNI hjr (by simp) (by omega) (by omega) (.inr ⟨_, _, hv⟩) (fun i' _ h => by simp [upd_app, h]) (by simp [upd_app, cI])
    · have e : i = fs.length := by omega
      subst e
      rw [List.take_length] at hNI
      match x, hxl with
      | [x1, x2], _ =>
        simp only [go_sem, ↓IntWalk.iteOmega, IntWalk.toNatUp, Nat.reduceEqDiff, Nat.reduceAdd, Nat.reduceMul, Nat.reduceSub, Nat.reduceLT, Nat.reduceLeDiff, Int.reduceToNat, Int.reduceLT, Int.reduceLE, Int.reduceEq, Int.reduceAdd, Int.reduceSub, Int.reduceMul, Int.toNat_natCast, reduceCtorEq, decide_true, decide_false, IntWalk.i64_in, IntWalk.u64_in, IntWalk.u8_in, nz38, h2, h3, h13, h14, h15, ho3, ho10, hx]
        exact ⟨cs, hNI.keep (fun _ _ => by simp [upd_app]) (by omega), rfl⟩
abbrev closerV (N : Nat) (rows : List (List Int)) : AV := .agg [.int .i64 N, .sl N (rows.map slI)]
theorem look38 (X) : lookedAt (EX md0 X) nz38 1 Tryd.f45 = true := by kernel_rfl
theorem closing_ok (N : Nat) (S F : Int) (hN : N ≤ 1000) (ss fs) (hfs : fs.length ≤ 100000) (hin : ∀ p ∈ fs, 0 ≤ p.1 ∧ p.1 < (N : Int)) : Ok Tryd.prog 45 [nfaV N S F ss fs] (closerV N (rowsOf N fs)) := by
  refine ok_of_WP (E := EX md0 (fun _ _ => none)) (cr := noR) (tab_nil _) (noR_ok _) mixed (k := fs.length + 1) Tryd.func45 (look38 _) rfl (WP_mono (closing_wp _ _ _ _ N S F hN ss fs hfs (by omega) hin) ?_)
  rintro u a o nx ⟨rfl, cs, hNI, h2, ho2, ho10⟩
  have hv := hNI.view 1009
  have hl : cs.length = N := by rw [hNI.1, rowsOf_length]
  refine ⟨.inr rfl, ?_⟩
  simp only [Tryd.f45, go_sem, ↓IntWalk.iteOmega, IntWalk.toNatUp, Nat.reduceEqDiff, Nat.reduceAdd, Nat.reduceMul, Nat.reduceSub, Nat.reduceLT, Nat.reduceLeDiff, Int.reduceToNat, Int.reduceLT, Int.reduceLE, Int.reduceEq, Int.reduceAdd, Int.reduceSub, Int.reduceMul, Int.toNat_natCast, reduceCtorEq, decide_true, decide_false, IntWalk.i64_in, IntWalk.u64_in, IntWalk.u8_in, h2, ho2, ho10, hl, hv, take_len hl]
end Go.Proofs.YthhfjjnhkifbfaaDoor.A
/- close: the states to which free steps lead. -/
namespace Go.Proofs.YthhfjjnhkifbfaaDoor.A
open Go
set_option maxRecDepth 20000
/-- Reached from states by free steps. -/
inductive Rch (N : Nat) (rows : List (List Int)) (l : List Int) : Nat → Prop
  | base (s : Nat) (h : (s : Int) ∈ l) (hs : s < N) : Rch N rows l s
  | step (s t : Nat) (h : Rch N rows l s) (hm : (t : Int) ∈ rows.getD s []) (ht : t < N) : Rch N rows l t
theorem Rch.lt {N rows l s} (h : Rch N rows l s) : s < N := by cases h <;> assumption
open Classical in
noncomputable def closeB (N : Nat) (rows : List (List Int)) (l : List Int) : List Bool := (List.range N).map fun s => decide (Rch N rows l s)
/-- Where it is true, rising. -/
def idxs (b : List Bool) : List Int := ((List.range b.length).map fun s => if b.getD s false then [(s : Int)] else []).flatten
theorem closeB_length (N rows l) : (closeB N rows l).length = N := by simp [closeB]
theorem closeB_get (N rows l s) : (closeB N rows l).getD s false = true ↔ Rch N rows l s := by
  classical
  simp only [closeB, List.getD, List.getElem?_map, List.getElem?_range']
  by_cases h : s < N
  · simp [h]
  · simp only [List.getElem?_eq_none (show (List.range N).length ≤ s by simp; omega)]
    simp
    exact fun hc => h hc.lt
theorem closeB_unique {N rows l} {b : List Bool} (hl : b.length = N) (h : ∀ s, b.getD s false = true ↔ Rch N rows l s) : b = closeB N rows l := by
  refine List.ext_getElem (by rw [hl, closeB_length]) fun s h1 h2 => ?_
  have e1 : b.getD s false = b[s] := by simp [List.getD, h1]
  have e2 : (closeB N rows l).getD s false = (closeB N rows l)[s] := by simp [List.getD, h2]
  rw [Bool.eq_iff_iff, ← e1, ← e2, h, closeB_get]
/-- What is still to be looked at. -/
def todo (rows : List (List Int)) (b : List Bool) : Nat := ((List.range b.length).map fun s => if b.getD s false then 0 else (rows.getD s []).length).sum
theorem sum_map_le {α : Type} (l : List α) (f g : α → Nat) (h : ∀ x ∈ l, f x ≤ g x) : (l.map f).sum ≤ (l.map g).sum := by
  induction l with
  | nil => simp
  | cons x l ih =>
    have := h x (List.mem_cons_self ..)
    have := ih fun y hy => h y (List.mem_cons_of_mem _ hy)
    simp; omega
theorem sum_map_one (n s : Nat) (hs : s < n) (f g : Nat → Nat) (h : ∀ x, x ≠ s → f x = g x) : ((List.range n).map f).sum + g s = ((List.range n).map g).sum + f s := by
  induction n with
  | zero => omega
  | succ n ih =>
    simp only [List.range_succ, List.map_append, List.sum_append, List.map_cons, List.map_nil, List.sum_cons, List.sum_nil]
    by_cases e : s = n
    · subst e
      have : (List.range s).map f = (List.range s).map g := List.map_congr_left fun x hx => h x (by have := List.mem_range.1 hx; omega)
      rw [this]; omega
    · have := ih (by omega)
      have := h n (fun hc => e hc.symm)
      omega
theorem todo_set {rows : List (List Int)} {b : List Bool} {s : Nat} (hs : s < b.length) (hb : b.getD s false = false) : todo rows (b.set s true) + (rows.getD s []).length = todo rows b := by
  unfold todo
  rw [List.length_set]
  have := sum_map_one b.length s hs (fun x => if (b.set s true).getD x false then 0 else (rows.getD x []).length) (fun x => if b.getD x false then 0 else (rows.getD x []).length) (fun x hx => by
    rw [getD_set _ _ _ _ _ hs, if_neg (show ¬ s = x from fun hc => hx hc.symm)])
  rw [hb, getD_set _ _ _ _ _ hs, if_pos rfl] at this
  rw [if_neg (by simp), if_pos rfl] at this
  omega
/-- Between the rounds: what is marked is reached; what is reached is marked or waits. -/
structure Mid (N : Nat) (rows : List (List Int)) (l : List Int) (b : List Bool) (st : List Int) : Prop where
  len : b.length = N
  sound : ∀ s, b.getD s false = true → Rch N rows l s
  wait : ∀ s : Nat, (s : Int) ∈ st → s < N → Rch N rows l s
  base : ∀ s : Nat, (s : Int) ∈ l → s < N → b.getD s false = true ∨ (s : Int) ∈ st
  next : ∀ s t : Nat, b.getD s false = true → (t : Int) ∈ rows.getD s [] → t < N → b.getD t false = true ∨ (t : Int) ∈ st
theorem Mid.start (N rows l) : Mid N rows l (List.replicate N false) l := by
  have h0 : ∀ s, (List.replicate N false).getD s false = false := fun s => by simp only [List.getD, List.getElem?_replicate]; split <;> rfl
  exact ⟨by simp, fun s h => (by rw [h0] at h; cases h), fun s h hs => .base s h hs, fun s h _ => .inr h, fun s t h => (by rw [h0] at h; cases h)⟩
theorem Mid.done {N rows l b} (h : Mid N rows l b []) : b = closeB N rows l := by
  refine closeB_unique h.len fun s => ⟨h.sound s, fun hr => ?_⟩
  induction hr with
  | base s hm hs => rcases h.base s hm hs with h | h; · exact h
                    · cases h
  | step s t hr hm ht ih => rcases h.next s t ih hm ht with h | h; · exact h
                            · cases h
theorem Mid.skip {N rows l b st} {x : Int} (h : Mid N rows l b (st ++ [x])) (hx : ∀ s : Nat, x = s → s < N → b.getD s false = true) : Mid N rows l b st := by
  refine ⟨h.len, h.sound, fun s hm hs => h.wait s (by simp [hm]) hs, fun s hm hs => ?_, fun s t hb hm ht => ?_⟩
  · rcases h.base s hm hs with h1 | h1
    · exact .inl h1
    · rcases List.mem_append.1 h1 with h1 | h1
      · exact .inr h1
      · exact .inl (hx s (List.mem_singleton.1 h1).symm hs)
  · rcases h.next s t hb hm ht with h1 | h1
    · exact .inl h1
    · rcases List.mem_append.1 h1 with h1 | h1
      · exact .inr h1
      · exact .inl (hx t (List.mem_singleton.1 h1).symm ht)
theorem Mid.mark {N rows l b st} {s : Nat} (h : Mid N rows l b (st ++ [(s : Int)])) (hs : s < N) : Mid N rows l (b.set s true) (st ++ rows.getD s []) := by
  have hsl : s < b.length := by rw [h.len]; exact hs
  have hr : Rch N rows l s := h.wait s (by simp) hs
  have hg : ∀ t, (b.set s true).getD t false = true ↔ t = s ∨ b.getD t false = true := fun t => by
    rw [getD_set _ _ _ _ _ hsl]
    by_cases e : s = t
    · simp [e]
    · rw [if_neg e]; simp [show ¬ t = s from fun hc => e hc.symm]
  refine ⟨by simpa using h.len, fun t ht => ?_, fun t hm ht => ?_, fun t hm ht => ?_, fun t u hb hm hu => ?_⟩
  · rcases (hg t).1 ht with rfl | ht
    · exact hr
    · exact h.sound t ht
  · rcases List.mem_append.1 hm with hm | hm
    · exact h.wait t (by simp [hm]) ht
    · exact .step s t hr hm ht
  · rw [hg]
    rcases h.base t hm ht with h1 | h1
    · exact .inl (.inr h1)
    · rcases List.mem_append.1 h1 with h1 | h1
      · exact .inr (List.mem_append_left _ h1)
      · exact .inl (.inl (by have := List.mem_singleton.1 h1; omega))
  · rw [hg]
    rcases (hg t).1 hb with rfl | hb
    · exact .inr (List.mem_append_right _ hm)
    · rcases h.next t u hb hm hu with h1 | h1
      · exact .inl (.inr h1)
      · rcases List.mem_append.1 h1 with h1 | h1
        · exact .inr (List.mem_append_left _ h1)
        · exact .inl (.inl (by have := List.mem_singleton.1 h1; omega))
theorem idxs_snoc {b : List Bool} {i : Nat} (h : i < b.length) : idxs (b.take (i + 1)) = idxs (b.take i) ++ (if b.getD i false then [(i : Int)] else []) := by
  have e : ∀ n, n ≤ b.length → idxs (b.take n) = ((List.range n).map fun s => if b.getD s false then [(s : Int)] else []).flatten := fun n hn => by
    unfold idxs
    rw [List.length_take, Nat.min_eq_left hn]
    congr 1
    refine List.map_congr_left fun s hs => ?_
    have : s < n := List.mem_range.1 hs
    have : (b.take n).getD s false = b.getD s false := by simp [List.getD, List.getElem?_take, this]
    rw [this]
  rw [e _ (by omega), e _ (by omega), List.range_succ, List.map_append, List.flatten_append]
  congr 1
  rw [List.map_singleton]
  exact List.append_nil _
theorem todo_start {rows : List (List Int)} {N : Nat} (h : rows.length = N) : todo rows (List.replicate N false) = (rows.map List.length).sum := by
  subst h
  unfold todo
  congr 1
  refine List.ext_getElem (by simp) fun s h1 h2 => ?_
  have hs : s < rows.length := by simpa using h2
  simp [List.getD, List.getElem?_replicate, hs]
theorem idxs_le (b : List Bool) : (idxs b).length ≤ b.length := by
  unfold idxs
  rw [List.length_flatten, List.map_map]
  have h := sum_map_le (List.range b.length) (List.length ∘ fun s => if b.getD s false then [(s : Int)] else []) (fun _ => 1) (fun s _ => by
    show (if b.getD s false then [(s : Int)] else []).length ≤ 1
    split
    · exact Nat.le_refl 1
    · exact Nat.zero_le 1)
  have h2 : ∀ n : Nat, ((List.range n).map fun _ => 1).sum = n := fun n => by
    induction n with
    | zero => rfl
    | succ n ih => rw [List.range_succ, List.map_append, List.sum_append, ih]; rfl
  rw [h2] at h
  exact h
theorem row_le (rows : List (List Int)) (s : Nat) : (rows.getD s []).length ≤ (rows.map List.length).sum := by
  induction rows generalizing s with
  | nil => simp [List.getD]
  | cons r rows ih =>
    cases s with
    | zero => simp [List.getD]
    | succ s => have := ih s; simp only [List.getD_cons_succ, List.map_cons, List.sum_cons]; omega
theorem slRows_get {rows : List (List Int)} {s : Nat} (h : s < rows.length) : take1 false 1 ((rows.map slI).drop s) = some (slI (rows.getD s [])) := by
  rw [cs_get (by simpa using h)]; simp [List.getD, h]
theorem close_wp (md X cr k) (N : Nat) (hN : N ≤ 100000) (rows : List (List Int)) (hr : rows.length = N) (l : List Int) (hsz : l.length + (rows.map List.length).sum ≤ 10000000) (hk : l.length + (rows.map List.length).sum + N < k) :
    WP (EX md X) cr k (fun _ => none) (Tryd.f46.body.getD .skip) (begin_ [closerV N rows, slI l]) (fun _ => none) 0 (fun u a o nx => u = .ret ∧ A.view o vDepth (a 4) = slI (idxs (closeB N rows l))) := by
  simp only [Tryd.f46, Option.getD_some]
  have hz : (cI (List.replicate l.length 0)).drop l.length = [] := by simp [cI]
  simp (disch := omega) only [go_sem, ↓IntWalk.iteOmega, IntWalk.toNatUp, Nat.reduceEqDiff, Nat.reduceAdd, Nat.reduceMul, Nat.reduceSub, Nat.reduceLT, Nat.reduceLeDiff, Int.reduceToNat, Int.reduceLT, Int.reduceLE, Int.reduceEq, Int.reduceAdd, Int.reduceSub, Int.reduceMul, Int.toNat_natCast, reduceCtorEq, decide_true, decide_false, IntWalk.i64_in, IntWalk.u64_in, IntWalk.u8_in, begin_, rep_bool, rep_int, hz]
  refine WP_loop (fun m a o nx => ∃ b full n g, Mid N rows l b (full.take n) ∧ n ≤ full.length ∧ m = n + todo rows b ∧ 4 ≤ nx ∧ m ≤ l.length + (rows.map List.length).sum ∧ a 2 = .ptr (0, 2) (0, 2) 0 ∧ a 5 = .ref (1, 13) (1, 13) 0 N ∧ a 6 = .ref (2, 16) g 0 n ∧
      o (0, 2) = some (.row ⟨98, 1, (0, 2), false, true, [.int .i64 N, .sl N (rows.map slI)]⟩) ∧ o (1, 13) = some (.row ⟨4, 1, (1, 13), false, true, cB b⟩) ∧ o (2, 16) = some (.row ⟨3, 1, g, false, true, cI full⟩)) (l.length + (rows.map List.length).sum) ?_ ?_ ?_
  · omega
  · refine ⟨List.replicate N false, l, l.length, (2, 16), by rw [List.take_length]; exact Mid.start N rows l, Nat.le_refl _, by rw [todo_start hr], by omega, Nat.le_refl _, ?_⟩
    simp only [go_sem, ↓IntWalk.iteOmega, IntWalk.toNatUp, Nat.reduceEqDiff, Nat.reduceAdd, Nat.reduceMul, Nat.reduceSub, Nat.reduceLT, Nat.reduceLeDiff, Int.reduceToNat, Int.reduceLT, Int.reduceLE, Int.reduceEq, Int.reduceAdd, Int.reduceSub, Int.reduceMul, Int.toNat_natCast, reduceCtorEq, decide_true, decide_false, IntWalk.i64_in, IntWalk.u64_in, IntWalk.u8_in, begin_]
  · rintro m a o nx ⟨b, full, n, g, hM, hn, rfl, hnx, hm, h2, h5, h6, ho2, ho13, ho16⟩
    have hbl := hM.len
    by_cases h0 : n = 0
    · subst h0
      rw [List.take_zero] at hM
      have hdone := hM.done
      simp (disch := omega) only [go_sem, ↓IntWalk.iteOmega, IntWalk.toNatUp, Nat.reduceEqDiff, Nat.reduceAdd, Nat.reduceMul, Nat.reduceSub, Nat.reduceLT, Nat.reduceLeDiff, Int.reduceToNat, Int.reduceLT, Int.reduceLE, Int.reduceEq, Int.reduceAdd, Int.reduceSub, Int.reduceMul, Int.toNat_natCast, reduceCtorEq, decide_true, decide_false, IntWalk.i64_in, IntWalk.u64_in, IntWalk.u8_in, h2, h5, h6, ho2, ho13, ho16]
      refine WP_loop (fun m a o nx' => ∃ i g, i ≤ N ∧ m = N - i ∧ nx + 2 ≤ nx' ∧ a 8 = .ref (nx + 1, 61) g 0 (idxs (b.take i)).length ∧ a 62 = .ref (1, 13) (1, 13) 0 N ∧ a 63 = .int .i64 N ∧ a 64 = .int .i64 i ∧
        o (1, 13) = some (.row ⟨4, 1, (1, 13), false, true, cB b⟩) ∧ o (nx + 1, 61) = some (.row ⟨3, 1, g, false, true, cI (idxs (b.take i))⟩)) N ?_ ?_ ?_
      · omega
      · refine ⟨0, (nx + 1, 61), by omega, by omega, by omega, ?_⟩
        have h0 : idxs (b.take 0) = [] := rfl
        simp only [go_sem, ↓IntWalk.iteOmega, IntWalk.toNatUp, Nat.reduceEqDiff, Nat.reduceAdd, Nat.reduceMul, Nat.reduceSub, Nat.reduceLT, Nat.reduceLeDiff, Int.reduceToNat, Int.reduceLT, Int.reduceLE, Int.reduceEq, Int.reduceAdd, Int.reduceSub, Int.reduceMul, Int.toNat_natCast, reduceCtorEq, decide_true, decide_false, IntWalk.i64_in, IntWalk.u64_in, IntWalk.u8_in, ho13, h0]
        exact ⟨rfl, rfl⟩
      · rintro m a o nx' ⟨i, g, hi, rfl, hnx', h8, h62, h63, h64, ho13, ho61⟩
        by_cases hlt : i < N
        · have hib : i < b.length := by omega
          have hgb := cB_get (s := 1) hib
          have hsn := idxs_snoc hib
          have hle := idxs_le (b.take i)
          rw [List.length_take] at hle
          cases hbi : b.getD i false with
          | true =>
            rw [hbi] at hgb hsn
            rw [if_pos rfl] at hsn
            simp (disch := omega) only [go_sem, ↓IntWalk.iteOmega, IntWalk.toNatUp, Nat.reduceEqDiff, Nat.reduceAdd, Nat.reduceMul, Nat.reduceSub, Nat.reduceLT, Nat.reduceLeDiff, Int.reduceToNat, Int.reduceLT, Int.reduceLE, Int.reduceEq, Int.reduceAdd, Int.reduceSub, Int.reduceMul, Int.toNat_natCast, reduceCtorEq, decide_true, decide_false, IntWalk.i64_in, IntWalk.u64_in, IntWalk.u8_in, h8, h62, h63, h64, ho13, ho61, hgb, IntWalk.i64_in]
            exact ⟨_, by omega, i + 1, _, by omega, rfl, by omega, by rw [hsn, List.length_append]; rfl, by simp, by rw [hsn, cI_app]; rfl⟩
          | false =>
            rw [hbi] at hgb hsn
            rw [if_neg (by simp), List.append_nil] at hsn
            simp (disch := omega) only [go_sem, ↓IntWalk.iteOmega, IntWalk.toNatUp, Nat.reduceEqDiff, Nat.reduceAdd, Nat.reduceMul, Nat.reduceSub, Nat.reduceLT, Nat.reduceLeDiff, Int.reduceToNat, Int.reduceLT, Int.reduceLE, Int.reduceEq, Int.reduceAdd, Int.reduceSub, Int.reduceMul, Int.toNat_natCast, reduceCtorEq, decide_true, decide_false, IntWalk.i64_in, IntWalk.u64_in, IntWalk.u8_in, h8, h62, h63, h64, ho13, ho61, hgb, IntWalk.i64_in]
            exact ⟨_, by omega, i + 1, g, by omega, rfl, by omega, by rw [hsn], by simp, by rw [hsn]⟩
        · have e : i = N := by omega
          subst e
          rw [List.take_of_length_le (by omega)] at h8 ho61
          have hlb := idxs_le b
          rw [← hdone]
          by_cases hz : (idxs b).length = 0
          · simp (disch := omega) only [go_sem, ↓IntWalk.iteOmega, IntWalk.toNatUp, Nat.reduceEqDiff, Nat.reduceAdd, Nat.reduceMul, Nat.reduceSub, Nat.reduceLT, Nat.reduceLeDiff, Int.reduceToNat, Int.reduceLT, Int.reduceLE, Int.reduceEq, Int.reduceAdd, Int.reduceSub, Int.reduceMul, Int.toNat_natCast, reduceCtorEq, decide_true, decide_false, IntWalk.i64_in, IntWalk.u64_in, IntWalk.u8_in, h8, h62, h63, h64, ho13, ho61, hz]
            rw [List.length_eq_zero_iff.1 hz]; rfl
          · simp (disch := omega) only [go_sem, ↓IntWalk.iteOmega, IntWalk.toNatUp, Nat.reduceEqDiff, Nat.reduceAdd, Nat.reduceMul, Nat.reduceSub, Nat.reduceLT, Nat.reduceLeDiff, Int.reduceToNat, Int.reduceLT, Int.reduceLE, Int.reduceEq, Int.reduceAdd, Int.reduceSub, Int.reduceMul, Int.toNat_natCast, reduceCtorEq, decide_true, decide_false, IntWalk.i64_in, IntWalk.u64_in, IntWalk.u8_in, h8, h62, h63, h64, ho13, ho61, hz]
    · have hg := cI_get (s := 1) (show n - 1 < full.length by omega)
      have htk : full.take n = full.take (n - 1) ++ [full.getD (n - 1) 0] := by
        have := take_succ_getD (show n - 1 < full.length by omega) 0
        rwa [show n - 1 + 1 = n by omega] at this
      rw [htk] at hM
      generalize full.getD (n - 1) 0 = x at hg htk hM
      have htk1 : (full.take (n - 1)).length = n - 1 := by rw [List.length_take]; omega
      by_cases hx0 : 0 ≤ x
      · obtain ⟨s, rfl⟩ := Int.eq_ofNat_of_zero_le hx0
        by_cases hs : s < N
        · have hgb := cB_get (s := 1) (show s < b.length by omega)
          have hrow := slRows_get (rows := rows) (show s < rows.length by omega)
          have hcs := cB_set b s true (by omega)
          cases hbs : b.getD s false with
          | true =>
            rw [hbs] at hgb
            simp (disch := omega) only [go_sem, ↓IntWalk.iteOmega, IntWalk.toNatUp, Nat.reduceEqDiff, Nat.reduceAdd, Nat.reduceMul, Nat.reduceSub, Nat.reduceLT, Nat.reduceLeDiff, Int.reduceToNat, Int.reduceLT, Int.reduceLE, Int.reduceEq, Int.reduceAdd, Int.reduceSub, Int.reduceMul, Int.toNat_natCast, reduceCtorEq, decide_true, decide_false, IntWalk.i64_in, IntWalk.u64_in, IntWalk.u8_in, h2, h5, h6, ho2, ho13, ho16, hg, hgb, IntWalk.i64_in]
            refine ⟨_, ?_, b, full, n - 1, g, hM.skip (fun t ht _ => ?_), by omega, rfl, by omega, rfl, rfl, rfl⟩
            · omega
            · have : s = t := by omega
              rw [← this, hbs]
          | false =>
            rw [hbs] at hgb
            have htd := todo_set (rows := rows) (show s < b.length by omega) hbs
            have hrl : (rows.getD s []).length ≤ (rows.map List.length).sum := row_le rows s
            simp (disch := omega) only [go_sem, ↓IntWalk.iteOmega, IntWalk.toNatUp, Nat.reduceEqDiff, Nat.reduceAdd, Nat.reduceMul, Nat.reduceSub, Nat.reduceLT, Nat.reduceLeDiff, Int.reduceToNat, Int.reduceLT, Int.reduceLE, Int.reduceEq, Int.reduceAdd, Int.reduceSub, Int.reduceMul, Int.toNat_natCast, reduceCtorEq, decide_true, decide_false, IntWalk.i64_in, IntWalk.u64_in, IntWalk.u8_in, h2, h5, h6, ho2, ho13, ho16, hg, hgb, hrow, hcs, cI_take, IntWalk.i64_in]
            refine ⟨_, ?_, b.set s true, full.take (n - 1) ++ rows.getD s [], n - 1 + (rows.getD s []).length, _, ?_, ?_, rfl, ?_, rfl, rfl, by rw [cI_app]⟩
            · omega
            · rw [List.take_of_length_le (by rw [List.length_append]; omega)]
              exact hM.mark hs
            · rw [List.length_append]; omega
            · omega
        · simp (disch := omega) only [go_sem, ↓IntWalk.iteOmega, IntWalk.toNatUp, Nat.reduceEqDiff, Nat.reduceAdd, Nat.reduceMul, Nat.reduceSub, Nat.reduceLT, Nat.reduceLeDiff, Int.reduceToNat, Int.reduceLT, Int.reduceLE, Int.reduceEq, Int.reduceAdd, Int.reduceSub, Int.reduceMul, Int.toNat_natCast, reduceCtorEq, decide_true, decide_false, IntWalk.i64_in, IntWalk.u64_in, IntWalk.u8_in, h2, h5, h6, ho2, ho13, ho16, hg, IntWalk.i64_in]
          exact ⟨_, by omega, b, full, n - 1, g, hM.skip (fun t ht htN => by omega), by omega, rfl, by omega, rfl, rfl, rfl⟩
      · simp (disch := omega) only [go_sem, ↓IntWalk.iteOmega, IntWalk.toNatUp, Nat.reduceEqDiff, Nat.reduceAdd, Nat.reduceMul, Nat.reduceSub, Nat.reduceLT, Nat.reduceLeDiff, Int.reduceToNat, Int.reduceLT, Int.reduceLE, Int.reduceEq, Int.reduceAdd, Int.reduceSub, Int.reduceMul, Int.toNat_natCast, reduceCtorEq, decide_true, decide_false, IntWalk.i64_in, IntWalk.u64_in, IntWalk.u8_in, h2, h5, h6, ho2, ho13, ho16, hg, IntWalk.i64_in]
        exact ⟨_, by omega, b, full, n - 1, g, hM.skip (fun t ht _ => by omega), by omega, rfl, by omega, rfl, rfl, rfl⟩
theorem look39 (X) : lookedAt (EX md0 X) (fun _ => none) 2 Tryd.f46 = true := by kernel_rfl
theorem close_ok (N : Nat) (hN : N ≤ 100000) (rows : List (List Int)) (hr : rows.length = N) (l : List Int) (hsz : l.length + (rows.map List.length).sum ≤ 10000000) : Ok Tryd.prog 46 [closerV N rows, slI l] (slI (idxs (closeB N rows l))) := by
  refine ok_of_WP (E := EX md0 (fun _ _ => none)) (cr := noR) (tab_nil _) (noR_ok _) mixed (k := l.length + (rows.map List.length).sum + N + 1) Tryd.func46 (look39 _) rfl (WP_mono (close_wp _ _ _ _ N hN rows hr l hsz (by omega)) ?_)
  rintro u a o nx ⟨rfl, h⟩
  exact ⟨.inr rfl, h⟩
end Go.Proofs.YthhfjjnhkifbfaaDoor.A
/- nfa.Close, nfa.Run: contracts. -/
namespace Go.Proofs.YthhfjjnhkifbfaaDoor.A
open Go
set_option maxRecDepth 20000
/-! ### relations -/
def R38 (args : List AV) (r : AV) : Prop := ∃ (N : Nat) (S F : Int) (ss : List (Int × Int × Int)) (fs : List (Int × Int)), N ≤ 1000 ∧ fs.length ≤ 100000 ∧ (∀ p ∈ fs, 0 ≤ p.1 ∧ p.1 < (N : Int)) ∧ args = [nfaV N S F ss fs] ∧ r = closerV N (rowsOf N fs)
def R39 (args : List AV) (r : AV) : Prop := ∃ (N : Nat) (rows : List (List Int)) (l : List Int), N ≤ 100000 ∧ rows.length = N ∧ l.length + (rows.map List.length).sum ≤ 10000000 ∧ args = [closerV N rows, slI l] ∧ r = slI (idxs (closeB N rows l))
theorem R38_fn : Fun1 R38 := by
  rintro args r r' ⟨N, S, F, ss, fs, _, _, _, rfl, rfl⟩ ⟨N', S', F', ss', fs', _, _, _, h, rfl⟩
  simp only [nfaV, List.cons.injEq, AV.agg.injEq, AV.int.injEq, AV.sl.injEq, true_and, and_true] at h
  obtain ⟨h1, _, _, _, _, h2⟩ := h
  have h1 : N = N' := by omega
  rw [h1, cP_inj h2]
theorem R39_fn : Fun1 R39 := by
  rintro args r r' ⟨N, rows, l, _, _, _, rfl, rfl⟩ ⟨N', rows', l', _, _, _, h, rfl⟩
  simp only [closerV, List.cons.injEq, AV.agg.injEq, AV.int.injEq, AV.sl.injEq, true_and, and_true] at h
  obtain ⟨⟨h1, _, h2⟩, _, h3⟩ := h
  have h1 : N = N' := by omega
  rw [h1, slIs_inj h2, cI_inj h3]
theorem R38_ok (args r) (h : R38 args r) : Ok Tryd.prog 45 args r := by
  obtain ⟨N, S, F, ss, fs, h1, h2, h3, rfl, rfl⟩ := h
  exact closing_ok N S F h1 ss fs h2 h3
theorem R39_ok (args r) (h : R39 args r) : Ok Tryd.prog 46 args r := by
  obtain ⟨N, rows, l, h1, h2, h3, rfl, rfl⟩ := h
  exact close_ok N h1 rows h2 l h3
theorem rows_sum {N : Nat} {fs : List (Int × Int)} (h : ∀ p ∈ fs, 0 ≤ p.1 ∧ p.1 < (N : Int)) : ((rowsOf N fs).map List.length).sum = fs.length := by
  have key : ∀ (l : List (Int × Int)) (rows : List (List Int)), rows.length = N → (∀ p ∈ l, 0 ≤ p.1 ∧ p.1 < (N : Int)) → ((l.foldl rowAdd rows).map List.length).sum = (rows.map List.length).sum + l.length := fun l => by
    induction l with
    | nil => intro rows _ _; simp
    | cons p l ih =>
      intro rows hl hp
      have hp0 := hp p (List.mem_cons_self ..)
      have hlt : p.1.toNat < rows.length := by omega
      rw [List.foldl_cons, ih _ (by simpa [rowAdd] using hl) (fun q hq => hp q (List.mem_cons_of_mem _ hq))]
      have : ((rowAdd rows p).map List.length).sum = (rows.map List.length).sum + 1 := by
        unfold rowAdd
        have e : ∀ (rs : List (List Int)) (i : Nat) (x : List Int), i < rs.length → ((rs.set i x).map List.length).sum + (rs.getD i []).length = (rs.map List.length).sum + x.length := fun rs => by
          induction rs with
          | nil => intro i x h; simp at h
          | cons r rs ih =>
            intro i x h
            cases i with
            | zero => simp [List.getD]; omega
            | succ i =>
              have := ih i x (by simpa using h)
              simp only [List.set_cons_succ, List.map_cons, List.sum_cons, List.getD_cons_succ]
              omega
        have := e rows p.1.toNat (rows.getD p.1.toNat [] ++ [p.2]) hlt
        rw [List.length_append, List.length_singleton] at this
        omega
      rw [this, List.length_cons]; omega
  have := key fs (List.replicate N []) (by simp) h
  simpa [rowsOf] using this

/-! ### Close -/
noncomputable def X28 : FuncId → List AV → Option AV := tabLook [(45, tRel R38), (46, tRel R39)]
theorem X28_ok : CPSound Tryd.prog X28 := tab_cons (tab_cons (tab_nil _) (tRel_ok R39_ok)) (tRel_ok R38_ok)
theorem X28_38 {N : Nat} (S F : Int) (ss) {fs : List (Int × Int)} (hN : N ≤ 1000) (hfs : fs.length ≤ 100000) (hin : ∀ p ∈ fs, 0 ≤ p.1 ∧ p.1 < (N : Int)) : X28 45 [nfaV N S F ss fs] = some (closerV N (rowsOf N fs)) := by
  show tRel R38 _ = _
  exact tRel_eq R38_fn ⟨N, S, F, ss, fs, hN, hfs, hin, rfl, rfl⟩
theorem X28_39 {N : Nat} {fs : List (Int × Int)} (hN : N ≤ 1000) (hfs : fs.length ≤ 100000) (hin : ∀ p ∈ fs, 0 ≤ p.1 ∧ p.1 < (N : Int)) (l : List Int) (hl : l.length ≤ 9000000) : X28 46 [closerV N (rowsOf N fs), slI l] = some (slI (idxs (closeB N (rowsOf N fs) l))) := by
  show tRel R39 _ = _
  exact tRel_eq R39_fn ⟨N, rowsOf N fs, l, by omega, rowsOf_length _ _, by rw [rows_sum hin]; omega, rfl, rfl⟩
theorem look28 (X) : lookedAt (EX md0 X) (fun _ => none) 2 Tryd.f33 = true := by kernel_rfl
theorem nfaClose_ok (N : Nat) (hN : N ≤ 1000) (S F : Int) (ss) (fs : List (Int × Int)) (hfs : fs.length ≤ 100000) (hin : ∀ p ∈ fs, 0 ≤ p.1 ∧ p.1 < (N : Int)) (l : List Int) (hl : l.length ≤ 9000000) : Ok Tryd.prog 33 [nfaV N S F ss fs, slI l] (slI (idxs (closeB N (rowsOf N fs) l))) := by
  refine ok_of_WP (E := EX md0 X28) (cr := noR) X28_ok (noR_ok _) mixed (k := 0) Tryd.func33 (look28 _) rfl ?_
  have h38 := X28_38 S F ss hN hfs hin
  have h39 := X28_39 hN hfs hin l hl
  simp only [Tryd.f33, Option.getD_some]
  simp (disch := omega) only [go_sem, ↓IntWalk.iteOmega, IntWalk.toNatUp, Nat.reduceEqDiff, Nat.reduceAdd, Nat.reduceMul, Nat.reduceSub, Nat.reduceLT, Nat.reduceLeDiff, Int.reduceToNat, Int.reduceLT, Int.reduceLE, Int.reduceEq, Int.reduceAdd, Int.reduceSub, Int.reduceMul, Int.toNat_natCast, reduceCtorEq, decide_true, decide_false, IntWalk.i64_in, IntWalk.u64_in, IntWalk.u8_in, begin_, h38, h39]

/-! ### Run -/
/-- Is a mode one of a set's? -/
def hasMode (set m : Int) : Bool := decide (andI .i64 (set.fdiv (2 ^ min m.toNat 64)) 1 = 1)
/-- Does a step lead on by a mode, from states? -/
def leads (b : List Bool) (m : Int) (s : Int × Int × Int) : Bool := b.getD s.1.toNat false && (decide (0 ≤ m) && decide (m < 5) && hasMode s.2.2 m)
def nextOf (ss : List (Int × Int × Int)) (b : List Bool) (m : Int) : List Int := (ss.filter (leads b m)).map (·.2.1)
noncomputable def stepB (N : Nat) (rows : List (List Int)) (ss : List (Int × Int × Int)) (b : List Bool) (m : Int) : List Bool := closeB N rows (nextOf ss b m)
noncomputable def setB (N : Nat) (S : Int) (ss : List (Int × Int × Int)) (fs : List (Int × Int)) (w : List Int) : List Bool := w.foldl (stepB N (rowsOf N fs) ss) (closeB N (rowsOf N fs) [S])
noncomputable def runB (N : Nat) (S F : Int) (ss : List (Int × Int × Int)) (fs : List (Int × Int)) (w : List Int) : Bool := (setB N S ss fs w).getD F.toNat false
theorem setB_snoc (N S ss fs w m) : setB N S ss fs (w ++ [m]) = stepB N (rowsOf N fs) ss (setB N S ss fs w) m := by simp [setB]
theorem setB_length (N S ss fs w) : (setB N S ss fs w).length = N := by
  rcases List.eq_nil_or_concat w with rfl | ⟨w, m, rfl⟩
  · simp [setB, closeB_length]
  · rw [List.concat_eq_append, setB_snoc, stepB, closeB_length]
theorem nextOf_snoc (ss s b m) : nextOf (ss ++ [s]) b m = nextOf ss b m ++ (if leads b m s then [s.2.1] else []) := by
  unfold nextOf
  rw [List.filter_append, List.map_append]
  congr 1
  cases h : leads b m s <;> simp [h]
theorem nextOf_le (ss b m) : (nextOf ss b m).length ≤ ss.length := by
  unfold nextOf; rw [List.length_map]; exact List.length_filter_le _ _
theorem mem_idxs {b : List Bool} {x : Int} : x ∈ idxs b ↔ ∃ s : Nat, x = s ∧ b.getD s false = true := by
  unfold idxs
  rw [List.mem_flatten]
  constructor
  · rintro ⟨l, hl, hx⟩
    obtain ⟨s, _, rfl⟩ := List.mem_map.1 hl
    cases hb : b.getD s false with
    | true => rw [hb] at hx; exact ⟨s, by simpa using hx, hb⟩
    | false => rw [hb] at hx; simp at hx
  · rintro ⟨s, rfl, hb⟩
    have hs : s < b.length := by
      by_cases h : s < b.length
      · exact h
      · rw [List.getD, List.getElem?_eq_none (by omega)] at hb; cases hb
    exact ⟨_, List.mem_map.2 ⟨s, List.mem_range.2 hs, rfl⟩, by rw [hb]; simp⟩
def marks (N : Nat) (l : List Int) : List Bool := l.foldl (fun b s => b.set s.toNat true) (List.replicate N false)
theorem marks_snoc (N l x) : marks N (l ++ [x]) = (marks N l).set x.toNat true := by simp [marks]
theorem marks_length (N l) : (marks N l).length = N := by
  have : ∀ (l : List Int) (b : List Bool), (l.foldl (fun b s => b.set s.toNat true) b).length = b.length := fun l => by
    induction l with
    | nil => intro; rfl
    | cons x l ih => intro b; rw [List.foldl_cons, ih, List.length_set]
  rw [marks, this, List.length_replicate]
theorem marks_get (N : Nat) (l : List Int) (h : ∀ x ∈ l, 0 ≤ x ∧ x < (N : Int)) (s : Nat) : (marks N l).getD s false = true ↔ (s : Int) ∈ l := by
  have key : ∀ (l : List Int) (b : List Bool), b.length = N → (∀ x ∈ l, 0 ≤ x ∧ x < (N : Int)) → ((l.foldl (fun b s => b.set s.toNat true) b).getD s false = true ↔ b.getD s false = true ∨ (s : Int) ∈ l) := fun l => by
    induction l with
    | nil => intro b _ _; simp
    | cons x l ih =>
      intro b hb hx
      have h0 := hx x (List.mem_cons_self ..)
      rw [List.foldl_cons, ih _ (by rw [List.length_set]; exact hb) (fun y hy => hx y (List.mem_cons_of_mem _ hy)), getD_set _ _ _ _ _ (by omega), List.mem_cons]
      by_cases e : x.toNat = s
      · have : (s : Int) = x := by omega
        simp [e, this]
      · have : ¬ (s : Int) = x := by omega
        rw [if_neg e]; simp [this]
  have h0 : (List.replicate N false).getD s false = false := by simp only [List.getD, List.getElem?_replicate]; split <;> rfl
  have := key l (List.replicate N false) (by simp) h
  rw [h0] at this
  simpa [marks] using this
theorem idxs_in {b : List Bool} {x : Int} (h : x ∈ idxs b) : 0 ≤ x ∧ x < b.length := by
  obtain ⟨s, rfl, hb⟩ := mem_idxs.1 h
  by_cases h : s < b.length
  · omega
  · rw [List.getD, List.getElem?_eq_none (by omega)] at hb; cases hb
theorem marks_idxs (b : List Bool) : marks b.length (idxs b) = b := by
  refine List.ext_getElem (marks_length _ _) fun s h1 h2 => ?_
  have e1 : (marks b.length (idxs b)).getD s false = (marks b.length (idxs b))[s] := by simp [List.getD, h1]
  have e2 : b.getD s false = b[s] := by simp [List.getD, h2]
  rw [Bool.eq_iff_iff, ← e1, ← e2, marks_get _ _ (fun x hx => idxs_in hx), mem_idxs]
  constructor
  · rintro ⟨t, ht, hb⟩
    have : s = t := by omega
    rw [this]; exact hb
  · exact fun hb => ⟨s, rfl, hb⟩
/-- A machine that may be. -/
structure Wf (N : Nat) (S F : Int) (ss : List (Int × Int × Int)) (fs : List (Int × Int)) : Prop where
  n : N ≤ 1000
  s : 0 ≤ S ∧ S < N
  f : 0 ≤ F ∧ F < N
  ls : ss.length ≤ 100000
  lf : fs.length ≤ 100000
  steps : ∀ p ∈ ss, (0 ≤ p.1 ∧ p.1 < N) ∧ (0 ≤ p.2.1 ∧ p.2.1 < N)
  free : ∀ p ∈ fs, (0 ≤ p.1 ∧ p.1 < N) ∧ (0 ≤ p.2 ∧ p.2 < N)
theorem getD_mem {α : Type} {l : List α} {i : Nat} (h : i < l.length) (d : α) : l.getD i d ∈ l := by
  have : l.getD i d = l[i] := by simp [List.getD, h]
  rw [this]; exact List.getElem_mem h

end Go.Proofs.YthhfjjnhkifbfaaDoor.A
/- The document's closure: closed, List. -/
namespace Go.Proofs.YthhfjjnhkifbfaaDoor.A
open Go
set_option maxRecDepth 20000
theorem rowsOf_mem {N : Nat} {fs : List (Int × Int)} (hin : ∀ p ∈ fs, 0 ≤ p.1 ∧ p.1 < (N : Int)) {j : Nat} (hj : j < N) (x : Int) : x ∈ (rowsOf N fs).getD j [] ↔ ((j : Int), x) ∈ fs := by
  have key : ∀ (l : List (Int × Int)) (rows : List (List Int)), rows.length = N → (∀ p ∈ l, 0 ≤ p.1 ∧ p.1 < (N : Int)) → (x ∈ (l.foldl rowAdd rows).getD j [] ↔ x ∈ rows.getD j [] ∨ ((j : Int), x) ∈ l) := fun l => by
    induction l with
    | nil => intro rows _ _; simp
    | cons p l ih =>
      intro rows hl hp
      have hp0 := hp p (List.mem_cons_self ..)
      rw [List.foldl_cons, ih _ (by simpa [rowAdd] using hl) (fun q hq => hp q (List.mem_cons_of_mem _ hq)), rowAdd, getD_set _ _ _ _ _ (by omega), List.mem_cons]
      obtain ⟨f, t⟩ := p
      simp only at hp0 ⊢
      by_cases e : f.toNat = j
      · have : f = (j : Int) := by omega
        subst this
        rw [if_pos e, Int.toNat_natCast, List.mem_append, List.mem_singleton]
        simp only [Prod.mk.injEq, true_and]
        exact or_assoc
      · rw [if_neg e]
        have : ¬ ((j : Int), x) = (f, t) := fun h => by injection h with h _; omega
        simp [this]
  have h0 : (List.replicate N ([] : List Int)).getD j [] = [] := by simp [List.getD, List.getElem?_replicate, hj]
  have := key fs (List.replicate N []) (by simp) hin
  rw [h0] at this
  simpa [rowsOf] using this
theorem Rch.mono {N rows l l'} (h : ∀ s : Nat, (s : Int) ∈ l → s < N → (s : Int) ∈ l') {s} (hr : Rch N rows l s) : Rch N rows l' s := by
  induction hr with
  | base s hm hs => exact .base s (h s hm hs) hs
  | step s t _ hm ht ih => exact .step s t ih hm ht
theorem closeB_congr {N rows l l'} (h : ∀ s : Nat, s < N → ((s : Int) ∈ l ↔ (s : Int) ∈ l')) : closeB N rows l = closeB N rows l' := by
  refine closeB_unique (closeB_length _ _ _) fun s => ?_
  rw [closeB_get]
  exact ⟨Rch.mono fun s hm hs => (h s hs).1 hm, Rch.mono fun s hm hs => (h s hs).2 hm⟩
def falses (b : List Bool) : Nat := ((List.range b.length).map fun s => if b.getD s false then 0 else 1).sum
theorem falses_set {b : List Bool} {s : Nat} (hs : s < b.length) (hb : b.getD s false = false) : falses (b.set s true) + 1 = falses b := by
  unfold falses
  rw [List.length_set]
  have := sum_map_one b.length s hs (fun x => if (b.set s true).getD x false then 0 else 1) (fun x => if b.getD x false then 0 else 1) (fun x hx => by
    rw [getD_set _ _ _ _ _ hs, if_neg (show ¬ s = x from fun hc => hx hc.symm)])
  rw [hb, getD_set _ _ _ _ _ hs, if_pos rfl] at this
  rw [if_neg (by simp), if_pos rfl] at this
  omega
theorem falses_idxs (b : List Bool) : falses b + (idxs b).length = b.length := by
  have key : ∀ n, ((List.range n).map fun s => if b.getD s false then 0 else 1).sum + (((List.range n).map fun s => if b.getD s false then [(s : Int)] else []).flatten).length = n := fun n => by
    induction n with
    | zero => rfl
    | succ n ih =>
      rw [List.range_succ, List.map_append, List.map_append, List.sum_append, List.flatten_append, List.length_append]
      have : ([n].map fun s => if b.getD s false then 0 else 1).sum + (([n].map fun s => if b.getD s false then [(s : Int)] else []).flatten).length = 1 := by
        simp only [List.map_cons, List.map_nil, List.sum_cons, List.sum_nil, List.flatten_cons, List.flatten_nil]
        cases b.getD n false <;> rfl
      omega
  exact key b.length
/-- Between two rounds of the search. -/
structure Bfs (N : Nat) (rows : List (List Int)) (src : List Int) (b : List Bool) (l : List Int) (i : Nat) : Prop where
  len : b.length = N
  cnt : falses b + l.length = N
  mark : ∀ s : Nat, b.getD s false = true ↔ (s : Int) ∈ l
  ok : ∀ x ∈ l, 0 ≤ x ∧ x < (N : Int)
  sound : ∀ s, b.getD s false = true → Rch N rows src s
  base : ∀ s : Nat, (s : Int) ∈ src → s < N → b.getD s false = true
  done : ∀ s : Nat, (s : Int) ∈ l.take i → ∀ t : Nat, (t : Int) ∈ rows.getD s [] → b.getD t false = true
theorem Bfs.start (rows) (b : List Bool) : Bfs b.length rows (idxs b) b (idxs b) 0 :=
  ⟨rfl, falses_idxs b, fun s => by rw [mem_idxs]; exact ⟨fun h => ⟨s, rfl, h⟩, fun ⟨t, ht, h⟩ => by rwa [show s = t by omega]⟩, fun x hx => idxs_in hx,
    fun s h => .base s (mem_idxs.2 ⟨s, rfl, h⟩) (by by_cases hs : s < b.length; · exact hs
                                                    · rw [List.getD, List.getElem?_eq_none (by omega)] at h; cases h),
    fun s hm _ => by obtain ⟨t, ht, h⟩ := mem_idxs.1 hm; rwa [show s = t by omega], fun s hm => by simp at hm⟩
theorem Bfs.finish {N rows src b l} (h : Bfs N rows src b l l.length) : b = closeB N rows src := by
  refine closeB_unique h.len fun s => ⟨h.sound s, fun hr => ?_⟩
  induction hr with
  | base s hm hs => exact h.base s hm hs
  | step s t _ hm ht ih => exact h.done s (by rw [List.take_length]; exact (h.mark s).1 ih) t hm
theorem Bfs.add {N rows src b l i} (h : Bfs N rows src b l i) (hi : i < l.length) {s t : Nat} (hs : l.getD i 0 = s) (ht : t < N) (hm : (t : Int) ∈ rows.getD s []) (hb : b.getD t false = false) : Bfs N rows src (b.set t true) (l ++ [(t : Int)]) i := by
  have htl : t < b.length := by rw [h.len]; exact ht
  have hg : ∀ u, (b.set t true).getD u false = true ↔ u = t ∨ b.getD u false = true := fun u => by
    rw [getD_set _ _ _ _ _ htl]
    by_cases e : t = u
    · simp [e]
    · rw [if_neg e]; simp [show ¬ u = t from fun hc => e hc.symm]
  have hsl : (s : Int) ∈ l := by rw [← hs]; exact getD_mem hi 0
  refine ⟨by simpa using h.len, ?_, fun u => ?_, fun x hx => ?_, fun u hu => ?_, fun u hu hn => (hg u).2 (.inr (h.base u hu hn)), fun u hu v hv => ?_⟩
  · have := falses_set htl hb
    have := h.cnt
    rw [List.length_append, List.length_singleton]; omega
  · rw [hg, List.mem_append, List.mem_singleton, h.mark]
    constructor
    · rintro (rfl | h)
      · exact .inr rfl
      · exact .inl h
    · rintro (h | h)
      · exact .inr h
      · exact .inl (by omega)
  · rcases List.mem_append.1 hx with hx | hx
    · exact h.ok x hx
    · rw [List.mem_singleton.1 hx]; omega
  · rcases (hg u).1 hu with rfl | hu
    · exact .step s u (h.sound s ((h.mark s).2 hsl)) hm ht
    · exact h.sound u hu
  · rw [List.take_append_of_le_length (by omega)] at hu
    exact (hg v).2 (.inr (h.done u hu v hv))
theorem Bfs.next {N rows src b l i} (h : Bfs N rows src b l i) (hi : i < l.length) {s : Nat} (hs : l.getD i 0 = s) (hd : ∀ t : Nat, (t : Int) ∈ rows.getD s [] → b.getD t false = true) : Bfs N rows src b l (i + 1) :=
  ⟨h.len, h.cnt, h.mark, h.ok, h.sound, h.base, fun u hu t ht => by
    rw [take_succ_getD hi 0, hs, List.mem_append, List.mem_singleton] at hu
    rcases hu with hu | hu
    · exact h.done u hu t ht
    · rw [show u = s by omega] at ht; exact hd t ht⟩
def nz46 : Nat → Option (List (Nat × Nat))
  | 13 => some [(2, 10), (5, 10), (7, 10), (2, 11)]
  | _ => none
theorem closed_wp (md X cr k) (N : Nat) (S F : Int) (ss fs) (hw : Wf N S F ss fs) (is : List Bool) (his : is.length = N) (hk : N + fs.length + 1 < k) :
    WP (EX md X) cr k nz46 (Tryd.f47.body.getD .skip) (begin_ [nfaV N S F ss fs, slB is]) (fun _ => none) 0 (fun u a o nx => u = .ret ∧ A.view o vDepth (a 4) = slB (closeB N (rowsOf N fs) (idxs is))) := by
  have hN := hw.n
  have hlf := hw.lf
  simp only [Tryd.f47, Option.getD_some]
  have hz : ([] : List AV).length = 0 := rfl
  simp (disch := omega) only [go_sem, ↓IntWalk.iteOmega, IntWalk.toNatUp, Nat.reduceEqDiff, Nat.reduceAdd, Nat.reduceMul, Nat.reduceSub, Nat.reduceLT, Nat.reduceLeDiff, Int.reduceToNat, Int.reduceLT, Int.reduceLE, Int.reduceEq, Int.reduceAdd, Int.reduceSub, Int.reduceMul, Int.toNat_natCast, reduceCtorEq, decide_true, decide_false, IntWalk.i64_in, IntWalk.u64_in, IntWalk.u8_in, begin_, nz46, his]
  refine WP_loop (fun m a o nx => ∃ i, i ≤ N ∧ m = N - i ∧ 4 ≤ nx ∧ a 2 = .ptr (0, 2) (0, 2) 0 ∧ a 5 = .ref (1, 14) (1, 16) 0 N ∧ a 7 = .int .i64 i ∧ HS 3 1 30 o nx (a 6) (idxs (is.take i)).length (cI (idxs (is.take i))) ∧
    o (0, 2) = some (.row ⟨41, 1, (0, 2), false, true, [.int .i64 N, .int .i64 S, .int .i64 F, .sl ss.length (cS ss), .sl fs.length (cP fs)]⟩) ∧ o (1, 14) = some (.row ⟨4, 1, (1, 16), false, true, cB is⟩)) N ?_ ?_ ?_
  · omega
  · refine ⟨0, by omega, by omega, ?_⟩
    simp only [go_sem, ↓IntWalk.iteOmega, IntWalk.toNatUp, Nat.reduceEqDiff, Nat.reduceAdd, Nat.reduceMul, Nat.reduceSub, Nat.reduceLT, Nat.reduceLeDiff, Int.reduceToNat, Int.reduceLT, Int.reduceLE, Int.reduceEq, Int.reduceAdd, Int.reduceSub, Int.reduceMul, Int.toNat_natCast, reduceCtorEq, decide_true, decide_false, IntWalk.i64_in, IntWalk.u64_in, IntWalk.u8_in, List.take_zero]
    exact HS.nil
  · rintro m a o nx ⟨i, hi, rfl, hnx, h2, h5, h7, hHS, ho2, ho14⟩
    by_cases hlt : i < N
    · have hgb := cB_get (s := 1) (show i < is.length by omega)
      have hsn := idxs_snoc (show i < is.length by omega)
      have hle := idxs_le (is.take i)
      rw [List.length_take] at hle
      generalize hv : a 6 = v at hHS
      cases hb : is.getD i false with
      | true =>
        rw [hb] at hgb hsn
        rw [if_pos rfl] at hsn
        rcases hHS with ⟨rfl, e2, e3⟩ | ⟨i1, g1, rfl, hi1, hrow, hlen⟩
        · simp (disch := omega) only [go_sem, ↓IntWalk.iteOmega, IntWalk.toNatUp, Nat.reduceEqDiff, Nat.reduceAdd, Nat.reduceMul, Nat.reduceSub, Nat.reduceLT, Nat.reduceLeDiff, Int.reduceToNat, Int.reduceLT, Int.reduceLE, Int.reduceEq, Int.reduceAdd, Int.reduceSub, Int.reduceMul, Int.toNat_natCast, reduceCtorEq, decide_true, decide_false, IntWalk.i64_in, IntWalk.u64_in, IntWalk.u8_in, h2, h5, hv, h7, ho2, ho14, hgb, IntWalk.i64_in]
          have e4 : idxs (is.take i) = [] := List.length_eq_zero_iff.1 e2
          refine ⟨_, ?_, i + 1, by omega, rfl, rfl, .inr ⟨nx + 2, (nx + 2, 30), ?_, by omega, ?_, ?_⟩⟩
          · omega
          · rw [hsn, e4]; rfl
          · rw [hsn, e4]; simp [upd_app, cI]
          · rw [hsn, e4]; rfl
        · simp (disch := omega) only [go_sem, ↓IntWalk.iteOmega, IntWalk.toNatUp, Nat.reduceEqDiff, Nat.reduceAdd, Nat.reduceMul, Nat.reduceSub, Nat.reduceLT, Nat.reduceLeDiff, Int.reduceToNat, Int.reduceLT, Int.reduceLE, Int.reduceEq, Int.reduceAdd, Int.reduceSub, Int.reduceMul, Int.toNat_natCast, reduceCtorEq, decide_true, decide_false, IntWalk.i64_in, IntWalk.u64_in, IntWalk.u8_in, h2, h5, hv, h7, ho2, ho14, hgb, hrow, IntWalk.i64_in]
          refine ⟨_, ?_, i + 1, by omega, rfl, rfl, .inr ⟨i1, (nx + 2, 30), ?_, by omega, ?_, ?_⟩⟩
          · omega
          · rw [hsn, List.length_append]; rfl
          · rw [hsn, cI_app]; simp [upd_app, cI]
          · rw [cI_length, Nat.mul_one]
      | false =>
        rw [hb] at hgb hsn
        rw [if_neg (by simp), List.append_nil] at hsn
        simp (disch := omega) only [go_sem, ↓IntWalk.iteOmega, IntWalk.toNatUp, Nat.reduceEqDiff, Nat.reduceAdd, Nat.reduceMul, Nat.reduceSub, Nat.reduceLT, Nat.reduceLeDiff, Int.reduceToNat, Int.reduceLT, Int.reduceLE, Int.reduceEq, Int.reduceAdd, Int.reduceSub, Int.reduceMul, Int.toNat_natCast, reduceCtorEq, decide_true, decide_false, IntWalk.i64_in, IntWalk.u64_in, IntWalk.u8_in, h2, h5, hv, h7, ho2, ho14, hgb, IntWalk.i64_in]
        exact ⟨_, by omega, i + 1, by omega, rfl, by omega, rfl, by rw [hsn]; exact hHS.keep (fun _ _ => rfl) (by omega)⟩
    · have hie : i = N := by omega
      rw [hie, ← his, List.take_length] at hHS
      simp (disch := omega) only [go_sem, ↓IntWalk.iteOmega, IntWalk.toNatUp, Nat.reduceEqDiff, Nat.reduceAdd, Nat.reduceMul, Nat.reduceSub, Nat.reduceLT, Nat.reduceLeDiff, Int.reduceToNat, Int.reduceLT, Int.reduceLE, Int.reduceEq, Int.reduceAdd, Int.reduceSub, Int.reduceMul, Int.toNat_natCast, reduceCtorEq, decide_true, decide_false, IntWalk.i64_in, IntWalk.u64_in, IntWalk.u8_in, h2, h5, h7, ho2, ho14, rep_one, IntWalk.i64_in]
      refine WP_loop (fun m a o nx' => ∃ i cs, i ≤ fs.length ∧ m = fs.length - i ∧ NI 57 o nx' cs (rowsOf N (fs.take i)) ∧ nx + 3 ≤ nx' ∧ a 2 = .ptr (0, 2) (0, 2) 0 ∧ a 5 = .ref (1, 14) (1, 16) 0 N ∧ a 8 = .ref (nx + 1, 33) (nx + 1, 33) 0 N ∧ a 9 = .int .i64 i ∧ HS 3 1 30 o nx' (a 6) (idxs is).length (cI (idxs is)) ∧
        o (0, 2) = some (.row ⟨41, 1, (0, 2), false, true, [.int .i64 N, .int .i64 S, .int .i64 F, .sl ss.length (cS ss), .sl fs.length (cP fs)]⟩) ∧ o (1, 14) = some (.row ⟨4, 1, (1, 16), false, true, cB is⟩) ∧ o (nx + 1, 33) = some (.row ⟨26, 1, (nx + 1, 33), false, true, cs⟩)) fs.length ?_ ?_ ?_
      · omega
      · refine ⟨0, List.replicate N .nil, by omega, by omega, NI.start _ _ _ N, by omega, ?_⟩
        simp only [go_sem, ↓IntWalk.iteOmega, IntWalk.toNatUp, Nat.reduceEqDiff, Nat.reduceAdd, Nat.reduceMul, Nat.reduceSub, Nat.reduceLT, Nat.reduceLeDiff, Int.reduceToNat, Int.reduceLT, Int.reduceLE, Int.reduceEq, Int.reduceAdd, Int.reduceSub, Int.reduceMul, Int.toNat_natCast, reduceCtorEq, decide_true, decide_false, IntWalk.i64_in, IntWalk.u64_in, IntWalk.u8_in, h2, h5, ho2, ho14]
        exact hHS.keep (fun _ _ => by simp [upd_app]) (by omega)
      · clear h2 h5 h7 ho2 ho14 hHS hie
        rintro m a o nx' ⟨i, cs, hi, rfl, hNI, hnx', h2, h5, h8, h9, hHS, ho2, ho14, ho33⟩
        by_cases hlt : i < fs.length
        · obtain ⟨⟨hf0, hfN⟩, _⟩ := hw.free _ (getD_mem hlt (0, 0))
          have hat := cP_at hlt
          have htake := take_succ_getD hlt (0, 0)
          generalize fs.getD i (0, 0) = f at hf0 hfN hat htake
          obtain ⟨f, t⟩ := f
          simp only at hf0 hfN hat htake
          obtain ⟨j, rfl⟩ := Int.eq_ofNat_of_zero_le hf0
          have hrl := rowsOf_length N (fs.take i)
          have hcl : cs.length = N := by rw [hNI.1, hrl]
          have hjN : j < cs.length := by omega
          have hH := hNI.2.1 j (by omega)
          have hget := cs_get (s := 1) hjN
          have hspl : ∀ v, splice cs j [v] = cs.set j v := fun v => splice_eq cs j v hjN
          have hnext : rowsOf N (fs.take (i + 1)) = (rowsOf N (fs.take i)).set j ((rowsOf N (fs.take i)).getD j [] ++ [t]) := by rw [htake, rowsOf_snoc]; rfl
          have hjr : j < (rowsOf N (fs.take i)).length := by omega
          generalize hv : cs.getD j .nil = v at hH hget
          have hle := rowsOf_le N (fs.take i) j
          have hlt' : (fs.take i).length ≤ fs.length := by rw [List.length_take]; omega
          generalize (rowsOf N (fs.take i)).getD j [] = r at *
          rcases hH with ⟨rfl, e2, e3⟩ | ⟨i1, g, rfl, hi1, hrow, hlen⟩
          · simp (disch := omega) only [go_sem, ↓IntWalk.iteOmega, IntWalk.toNatUp, Nat.reduceEqDiff, Nat.reduceAdd, Nat.reduceMul, Nat.reduceSub, Nat.reduceLT, Nat.reduceLeDiff, Int.reduceToNat, Int.reduceLT, Int.reduceLE, Int.reduceEq, Int.reduceAdd, Int.reduceSub, Int.reduceMul, Int.toNat_natCast, reduceCtorEq, decide_true, decide_false, IntWalk.i64_in, IntWalk.u64_in, IntWalk.u8_in, nz46, h2, h5, h8, h9, ho2, ho14, ho33, hat, hget, hspl, IntWalk.i64_in]
            have e4 : r = [] := List.length_eq_zero_iff.1 e2
            refine ⟨_, ?_, i + 1, _, by omega, rfl, ?_, by omega, rfl, ?_, rfl⟩
            · omega
            · rw [hnext, e4]
              exact NI.set (l := [t]) hNI hjr rfl (by omega) (by omega) (.inl ⟨hv, by omega⟩) (fun i' _ h => by simp [upd_app, h]) (by simp [upd_app, cI])
            · exact hHS.keep (fun _ _ => by simp [upd_app]) (by omega)
          · simp (disch := omega) only [go_sem, ↓IntWalk.iteOmega, IntWalk.toNatUp, Nat.reduceEqDiff, Nat.reduceAdd, Nat.reduceMul, Nat.reduceSub, Nat.reduceLT, Nat.reduceLeDiff, Int.reduceToNat, Int.reduceLT, Int.reduceLE, Int.reduceEq, Int.reduceAdd, Int.reduceSub, Int.reduceMul, Int.toNat_natCast, reduceCtorEq, decide_true, decide_false, IntWalk.i64_in, IntWalk.u64_in, IntWalk.u8_in, nz46, h2, h5, h8, h9, ho2, ho14, ho33, hat, hget, hrow, hspl, IntWalk.i64_in]
            refine ⟨_, ?_, i + 1, _, by omega, rfl, ?_, by omega, rfl, ?_, rfl⟩
            · omega
            · rw [hnext]
              exact NI.set (l := r ++ [t]) hNI hjr (by simp) (by omega) (by omega) (.inr ⟨_, _, hv⟩) (fun i' _ h => by simp [upd_app, h]) (by simp [upd_app, cI])
            · exact hHS.keep (fun _ _ => by simp [upd_app]) (by omega)
        · have e : i = fs.length := by omega
          subst e
          rw [List.take_length] at hNI
          have hrl := rowsOf_length N fs
          have hcl : cs.length = N := by rw [hNI.1, hrl]
          have hrows := fun j (hj : j < N) x => rowsOf_mem (fs := fs) (fun p hp => (hw.free p hp).1) hj x
          have hrle := rowsOf_le N fs
          generalize rowsOf N fs = rows at *
          generalize hv : a 6 = v at hHS
          simp (disch := omega) only [go_sem, ↓IntWalk.iteOmega, IntWalk.toNatUp, Nat.reduceEqDiff, Nat.reduceAdd, Nat.reduceMul, Nat.reduceSub, Nat.reduceLT, Nat.reduceLeDiff, Int.reduceToNat, Int.reduceLT, Int.reduceLE, Int.reduceEq, Int.reduceAdd, Int.reduceSub, Int.reduceMul, Int.toNat_natCast, reduceCtorEq, decide_true, decide_false, IntWalk.i64_in, IntWalk.u64_in, IntWalk.u8_in, h2, h5, h8, h9, ho2, ho14, ho33, hv, IntWalk.i64_in]
          refine WP_loop (fun m a o nx'' => ∃ i b g l, Bfs N rows (idxs is) b l i ∧ i ≤ l.length ∧ m = N - i ∧ NI 57 o nx'' cs rows ∧ nx + 3 ≤ nx'' ∧ a 2 = .ptr (0, 2) (0, 2) 0 ∧ a 5 = .ref (1, 14) g 0 N ∧ a 8 = .ref (nx + 1, 33) (nx + 1, 33) 0 N ∧ a 11 = .int .i64 i ∧ HS 3 1 30 o nx'' (a 6) l.length (cI l) ∧
            o (1, 14) = some (.row ⟨4, 1, g, false, true, cB b⟩) ∧ o (nx + 1, 33) = some (.row ⟨26, 1, (nx + 1, 33), false, true, cs⟩)) N ?_ ?_ ?_
          · omega
          · refine ⟨0, is, (1, 16), idxs is, by rw [← his]; exact Bfs.start rows is, by omega, by omega, hNI.keep (fun _ _ => rfl) (by omega), by omega, ?_⟩
            simp only [go_sem, ↓IntWalk.iteOmega, IntWalk.toNatUp, Nat.reduceEqDiff, Nat.reduceAdd, Nat.reduceMul, Nat.reduceSub, Nat.reduceLT, Nat.reduceLeDiff, Int.reduceToNat, Int.reduceLT, Int.reduceLE, Int.reduceEq, Int.reduceAdd, Int.reduceSub, Int.reduceMul, Int.toNat_natCast, reduceCtorEq, decide_true, decide_false, IntWalk.i64_in, IntWalk.u64_in, IntWalk.u8_in, h2, h5, h8, ho14, ho33, hv]
            exact hHS.keep (fun _ _ => rfl) (by omega)
          · clear h2 h5 h8 h9 ho2 ho14 ho33 hHS hv hNI
            rintro m a o nx'' ⟨i, b, g, l, hB, hi, rfl, hNI, hnx'', h2, h5, h8, h11, hHS, ho14, ho33⟩
            have hlN : l.length ≤ N := by have := hB.cnt; omega
            by_cases hlt : i < l.length
            · generalize hv : a 6 = v at hHS
              have hHS' := hHS
              rcases hHS with ⟨_, e2, _⟩ | ⟨i1, g1, rfl, hi1, hrow, hlen⟩
              · omega
              obtain ⟨hs0, hsN⟩ := hB.ok _ (getD_mem hlt 0)
              obtain ⟨s, hs⟩ := Int.eq_ofNat_of_zero_le hs0
              have hsN : s < N := by omega
              simp (disch := omega) only [go_sem, ↓IntWalk.iteOmega, IntWalk.toNatUp, Nat.reduceEqDiff, Nat.reduceAdd, Nat.reduceMul, Nat.reduceSub, Nat.reduceLT, Nat.reduceLeDiff, Int.reduceToNat, Int.reduceLT, Int.reduceLE, Int.reduceEq, Int.reduceAdd, Int.reduceSub, Int.reduceMul, Int.toNat_natCast, reduceCtorEq, decide_true, decide_false, IntWalk.i64_in, IntWalk.u64_in, IntWalk.u8_in, h2, h5, h8, h11, ho14, ho33, hv, hrow, IntWalk.i64_in]
              refine WP_loop (fun m a o nx'' => ∃ j b g l, Bfs N rows (idxs is) b l i ∧ i < l.length ∧ l.getD i 0 = s ∧ j ≤ (rows.getD s []).length ∧ (∀ t : Nat, (t : Int) ∈ (rows.getD s []).take j → b.getD t false = true) ∧ m = (rows.getD s []).length - j ∧ NI 57 o nx'' cs rows ∧ nx + 3 ≤ nx'' ∧ a 2 = .ptr (0, 2) (0, 2) 0 ∧ a 5 = .ref (1, 14) g 0 N ∧ a 8 = .ref (nx + 1, 33) (nx + 1, 33) 0 N ∧ a 11 = .int .i64 i ∧ a 12 = .int .i64 j ∧ HS 3 1 30 o nx'' (a 6) l.length (cI l) ∧
                o (1, 14) = some (.row ⟨4, 1, g, false, true, cB b⟩) ∧ o (nx + 1, 33) = some (.row ⟨26, 1, (nx + 1, 33), false, true, cs⟩)) (rows.getD s []).length ?_ ?_ ?_
              · have := hrle s; omega
              · refine ⟨0, b, g, l, hB, hlt, hs, by omega, fun t ht => by simp at ht, by omega, hNI.keep (fun _ _ => rfl) (by omega), by omega, ?_⟩
                simp only [go_sem, ↓IntWalk.iteOmega, IntWalk.toNatUp, Nat.reduceEqDiff, Nat.reduceAdd, Nat.reduceMul, Nat.reduceSub, Nat.reduceLT, Nat.reduceLeDiff, Int.reduceToNat, Int.reduceLT, Int.reduceLE, Int.reduceEq, Int.reduceAdd, Int.reduceSub, Int.reduceMul, Int.toNat_natCast, reduceCtorEq, decide_true, decide_false, IntWalk.i64_in, IntWalk.u64_in, IntWalk.u8_in, h2, h5, h8, h11, ho14, ho33, hv]
                exact hHS'.keep (fun _ _ => rfl) (by omega)
              · clear h2 h5 h8 h11 ho14 ho33 hHS' hv hNI hrow hlen
                rintro m a o nx'' ⟨j, b, g, l, hB, hlt, hs, hj, hdn, rfl, hNI, hnx'', h2, h5, h8, h11, h12, hHS, ho14, ho33⟩
                have hlN : l.length ≤ N := by have := hB.cnt; omega
                have hbl := hB.len
                generalize hv : a 6 = v at hHS
                have hHS' := hHS
                rcases hHS with ⟨_, e2, _⟩ | ⟨i1, g1, rfl, hi1, hrow, hlen⟩
                · omega
                have hgl := cI_get (s := 1) hlt
                rw [hs] at hgl
                have hrs := hrle s
                have hH := hNI.2.1 s (by omega)
                have hget := cs_get (s := 1) (show s < cs.length by omega)
                generalize hv2 : cs.getD s .nil = v2 at hH hget
                rcases hH with ⟨rfl, e2, e3⟩ | ⟨i2, g2, rfl, hi2, hrow2, hlen2⟩
                · have : j = 0 := by omega
                  subst this
                  simp (disch := omega) only [go_sem, ↓IntWalk.iteOmega, IntWalk.toNatUp, Nat.reduceEqDiff, Nat.reduceAdd, Nat.reduceMul, Nat.reduceSub, Nat.reduceLT, Nat.reduceLeDiff, Int.reduceToNat, Int.reduceLT, Int.reduceLE, Int.reduceEq, Int.reduceAdd, Int.reduceSub, Int.reduceMul, Int.toNat_natCast, reduceCtorEq, decide_true, decide_false, IntWalk.i64_in, IntWalk.u64_in, IntWalk.u8_in, h2, h5, h8, h11, h12, ho14, ho33, hv, hrow, hgl, hget, IntWalk.i64_in]
                  have e4 : rows.getD s [] = [] := List.length_eq_zero_iff.1 e2
                  exact ⟨_, by omega, i + 1, b, g, l, hB.next hlt hs (fun t ht => by rw [e4] at ht; cases ht), by omega, rfl, hNI.keep (fun _ _ => rfl) (by omega), by omega, rfl, rfl, hHS'.keep (fun _ _ => rfl) (by omega), rfl⟩
                · by_cases hjl : j < (rows.getD s []).length
                  · have hgr := cI_get (s := 1) hjl
                    have htk := take_succ_getD hjl 0
                    have hmem := getD_mem hjl 0
                    have hmem2 := (hrows s hsN _).1 hmem
                    obtain ⟨_, ht0, htN⟩ := hw.free _ hmem2
                    obtain ⟨t, ht⟩ := Int.eq_ofNat_of_zero_le ht0
                    simp only at ht htN
                    rw [ht] at hgr htk hmem htN
                    have htN : t < N := by omega
                    have hgb := cB_get (s := 1) (show t < b.length by omega)
                    cases hbt : b.getD t false with
                    | true =>
                      rw [hbt] at hgb
                      simp (disch := omega) only [go_sem, ↓IntWalk.iteOmega, IntWalk.toNatUp, Nat.reduceEqDiff, Nat.reduceAdd, Nat.reduceMul, Nat.reduceSub, Nat.reduceLT, Nat.reduceLeDiff, Int.reduceToNat, Int.reduceLT, Int.reduceLE, Int.reduceEq, Int.reduceAdd, Int.reduceSub, Int.reduceMul, Int.toNat_natCast, reduceCtorEq, decide_true, decide_false, IntWalk.i64_in, IntWalk.u64_in, IntWalk.u8_in, h2, h5, h8, h11, h12, ho14, ho33, hv, hrow, hrow2, hgl, hget, hgr, hgb, IntWalk.i64_in]
                      refine ⟨_, ?_, j + 1, b, g, l, hB, hlt, hs, by omega, fun u hu => ?_, rfl, hNI.keep (fun _ _ => rfl) (by omega), by omega, rfl, rfl, hHS'.keep (fun _ _ => rfl) (by omega), rfl⟩
                      · omega
                      · rw [htk, List.mem_append, List.mem_singleton] at hu
                        rcases hu with hu | hu
                        · exact hdn u hu
                        · rw [show u = t by omega]; exact hbt
                    | false =>
                      rw [hbt] at hgb
                      have hset := cB_set b t true (by omega)
                      simp (disch := omega) only [go_sem, ↓IntWalk.iteOmega, IntWalk.toNatUp, Nat.reduceEqDiff, Nat.reduceAdd, Nat.reduceMul, Nat.reduceSub, Nat.reduceLT, Nat.reduceLeDiff, Int.reduceToNat, Int.reduceLT, Int.reduceLE, Int.reduceEq, Int.reduceAdd, Int.reduceSub, Int.reduceMul, Int.toNat_natCast, reduceCtorEq, decide_true, decide_false, IntWalk.i64_in, IntWalk.u64_in, IntWalk.u8_in, h2, h5, h8, h11, h12, ho14, ho33, hv, hrow, hrow2, hgl, hget, hgr, hgb, hset, IntWalk.i64_in]
                      have hgl' : (l ++ [(t : Int)]).getD i 0 = s := by rw [← hs]; simp [List.getD, List.getElem?_append_left hlt]
                      refine ⟨_, ?_, j + 1, b.set t true, g, l ++ [(t : Int)], hB.add hlt hs htN hmem hbt, by rw [List.length_append]; omega, hgl', by omega, fun u hu => ?_, rfl, hNI.keep (fun _ _ => by simp [upd_app]) (by omega), by omega, rfl, rfl, .inr ⟨i1, (nx'' + 4, 98), by rw [List.length_append]; rfl, by omega, ?_, by rw [cI_length, Nat.mul_one]⟩, rfl⟩
                      · omega
                      · rw [getD_set _ _ _ _ _ (by omega)]
                        split
                        · rfl
                        · rename_i hne
                          rw [htk, List.mem_append, List.mem_singleton] at hu
                          rcases hu with hu | hu
                          · exact hdn u hu
                          · exact absurd (show t = u by omega) hne
                      · rw [cI_app]; simp [upd_app, cI]
                  · simp (disch := omega) only [go_sem, ↓IntWalk.iteOmega, IntWalk.toNatUp, Nat.reduceEqDiff, Nat.reduceAdd, Nat.reduceMul, Nat.reduceSub, Nat.reduceLT, Nat.reduceLeDiff, Int.reduceToNat, Int.reduceLT, Int.reduceLE, Int.reduceEq, Int.reduceAdd, Int.reduceSub, Int.reduceMul, Int.toNat_natCast, reduceCtorEq, decide_true, decide_false, IntWalk.i64_in, IntWalk.u64_in, IntWalk.u8_in, h2, h5, h8, h11, h12, ho14, ho33, hv, hrow, hrow2, hgl, hget, IntWalk.i64_in]
                    have hje : j = (rows.getD s []).length := by omega
                    rw [hje, List.take_length] at hdn
                    exact ⟨_, by omega, i + 1, b, g, l, hB.next hlt hs hdn, by omega, rfl, hNI.keep (fun _ _ => rfl) (by omega), by omega, rfl, rfl, hHS'.keep (fun _ _ => rfl) (by omega), rfl⟩
            · have hie : i = l.length := by omega
              subst hie
              rw [← hB.finish]
              have hall : (cB b).take N = cB b := by rw [← hB.len]; exact cB_all b
              have hbl := hB.len
              generalize hv : a 6 = v at hHS
              rcases hHS with ⟨rfl, e2, _⟩ | ⟨i1, g1, rfl, hi1, hrow, hlen⟩
              · simp (disch := omega) only [go_sem, ↓IntWalk.iteOmega, IntWalk.toNatUp, Nat.reduceEqDiff, Nat.reduceAdd, Nat.reduceMul, Nat.reduceSub, Nat.reduceLT, Nat.reduceLeDiff, Int.reduceToNat, Int.reduceLT, Int.reduceLE, Int.reduceEq, Int.reduceAdd, Int.reduceSub, Int.reduceMul, Int.toNat_natCast, reduceCtorEq, decide_true, decide_false, IntWalk.i64_in, IntWalk.u64_in, IntWalk.u8_in, h2, h5, h8, h11, ho14, ho33, hv, hbl, hall, IntWalk.i64_in]
                rw [slB, hbl]
              · simp (disch := omega) only [go_sem, ↓IntWalk.iteOmega, IntWalk.toNatUp, Nat.reduceEqDiff, Nat.reduceAdd, Nat.reduceMul, Nat.reduceSub, Nat.reduceLT, Nat.reduceLeDiff, Int.reduceToNat, Int.reduceLT, Int.reduceLE, Int.reduceEq, Int.reduceAdd, Int.reduceSub, Int.reduceMul, Int.toNat_natCast, reduceCtorEq, decide_true, decide_false, IntWalk.i64_in, IntWalk.u64_in, IntWalk.u8_in, h2, h5, h8, h11, ho14, ho33, hv, hbl, hall, IntWalk.i64_in]
                rw [slB, hbl]
theorem look46 (X) : lookedAt (EX md0 X) nz46 2 Tryd.f47 = true := by kernel_rfl
theorem closed_ok (N : Nat) (S F : Int) (ss fs) (hw : Wf N S F ss fs) (is : List Bool) (his : is.length = N) : Ok Tryd.prog 47 [nfaV N S F ss fs, slB is] (slB (closeB N (rowsOf N fs) (idxs is))) := by
  refine ok_of_WP (E := EX md0 (fun _ _ => none)) (cr := noR) (tab_nil _) (noR_ok _) mixed (k := N + fs.length + 2) Tryd.func47 (look46 _) rfl (WP_mono (closed_wp _ _ _ _ N S F ss fs hw is his (by omega)) ?_)
  rintro u a o nx ⟨rfl, h⟩
  exact ⟨.inr rfl, h⟩
end Go.Proofs.YthhfjjnhkifbfaaDoor.A
