/- Expressions read: Parse. -/
import Derived.Lib.Join
import Derived.Shelf.Strconv.Itoa3
import Derived.Test.YtmcbfbpdfbcakaaDoorMLRReads1
import Derived.Test.YtmcbfbpdfbcakaaDoorMLRReads2
import Derived.Test.YtmcbfbpdfbcakaaDoorMLRReads3
import Derived.Test.YtmcbfbpdfbcakaaDoorMLRReads4
import Derived.Test.YtmcbfbpdfbcakaaDoorMLRReads5
import Derived.Test.YtmcbfbpdfbcakaaDoorMLRReads6
import Derived.Test.YtmcbfbpdfbcakaaDoorMLRReads7
set_option linter.unusedVariables false
set_option linter.unusedSimpArgs false
set_option linter.unnecessarySimpa false
namespace Go.Proofs.YtmcbfbpdfbcakaaDoor.A
open Go
set_option maxRecDepth 20000
/-! ### what Parse tells -/
abbrev Lvs := List (List Nd × List Nd)
def kindN : Nd → Int
  | .mk k _ _ _ _ => k
abbrev zeroN : Nd := .mk 0 0 0 0 []
def lastN (k lo hi : Int) (J : List Nd) : List Nd := J.dropLast ++ [.mk k 0 lo hi [J.getLastD zeroN]]
def pGo (s : List UInt8) : Nat → Int → List Nd → List Nd → Lvs → Nd × Int × Int
  | 0, at_, _, _, _ => (zeroN, at_, 3)
  | f + 1, at_, U, J, B =>
    if (s.length : Int) ≤ at_ then (if B ≠ [] ∨ J = [] then (zeroN, at_, 3) else (manyN 5 (U ++ [manyN 4 J]), 0, 0))
    else if kindN (plainN (byteN s at_)) ≠ 0 then pGo s f (at_ + 1) U (J ++ [plainN (byteN s at_)]) B
    else if byteN s at_ = 91 then
      let q := classF s (s.length - (at_ + 1).toNat) (at_ + 1) 0
      if q.2.1 = false then (zeroN, q.2.2, 3) else pGo s f (q.2.2 + 1) U (J ++ [.mk 1 q.1 0 0 []]) B
    else if byteN s at_ = 40 then (if B.length + 1 > 30 then (zeroN, at_, 4) else pGo s f (at_ + 1) [] [] ((U, J) :: B))
    else if J = [] then (zeroN, at_, 3)
    else if afterN (byteN s at_) = 9 then
      let q := timesN s at_
      if 0 ≤ q.2.2 then (zeroN, q.2.2, 3) else pGo s f (at_ + 5) U (lastN 9 q.1 q.2.1 J) B
    else if afterN (byteN s at_) ≠ 0 then pGo s f (at_ + 1) U (lastN (afterN (byteN s at_)) 0 0 J) B
    else if byteN s at_ = 124 then pGo s f (at_ + 1) (U ++ [manyN 4 J]) [] B
    else if byteN s at_ = 41 ∧ B ≠ [] then pGo s f (at_ + 1) (B.headD ([], [])).1 ((B.headD ([], [])).2 ++ [manyN 5 (U ++ [manyN 4 J])]) B.tail
    else (zeroN, at_, 3)
def parseN (s : List UInt8) : Nd × Int × Int := if 200 < s.length then (zeroN, 0, 4) else pGo s (s.length + 1) 0 [] [] []
/-! ### the levels below -/
inductive Below (o : Ob) (N : Nat) : Nat → List AV → Lvs → Prop
  | nil (b : Nat) : Below o N b [] []
  | cons (b' b D : Nat) (pre : List AV) (vU vJ : AV) (U J : List Nd) (B : Lvs) : Below o N b' pre B → 3 ≤ b' → b' ≤ b → Lv b' o b D vU vJ U J → D ≤ N → U.length ≤ N → J.length ≤ N → Below o N b (pre ++ [vU, vJ]) ((U, J) :: B)
theorem Below.keep {o o' : Ob} {N N' b : Nat} {pre : List AV} {B : Lvs} (h : Below o N b pre B) (hN : N ≤ N') : KeepB b o o' → Below o' N' b pre B := by
  induction h with
  | nil b => intro _; exact .nil b
  | cons b' b D pre vU vJ U J B h1 h2 h3 h4 h5 h6 h7 ih =>
    intro hk
    exact .cons b' b D pre vU vJ U J B (ih (fun i k e1 e2 => hk i k e1 (by omega))) h2 h3 (h4.keep (by omega) (fun i k e1 e2 _ => hk i k (by omega) e2)) (by omega) (by omega) (by omega)
theorem Below.length {o : Ob} {N b : Nat} {pre : List AV} {B : Lvs} (h : Below o N b pre B) : pre.length = B.length * 2 := by
  induction h with
  | nil b => rfl
  | cons b' b D pre vU vJ U J B h1 h2 h3 h4 h5 h6 h7 ih => rw [List.length_append, ih]; show _ + 2 = (_ + 1) * 2; omega
theorem KeepL.below {b n : Nat} {o o' : Ob} (h : KeepL b n o o') (hn : b ≤ n) : KeepB b o o' := fun i k h1 h2 => h i k (by omega) (by intro e; cases e; omega) (by intro e; cases e; omega) (by intro; omega)
/-! ### the code -/
noncomputable def bP : Code := Tryd.f18.body.getD .skip
noncomputable def xP : Code := pathC [1, 0] bP
noncomputable def r1 : Code := pathC [1, 0, 1, 1, 1, 1, 1] bP
noncomputable def r0 : Code := pathC [1, 0, 1, 1, 1, 1, 1, 1, 1, 1, 1, 1] bP
noncomputable def r2 : Code := pathC [1, 0, 1, 1, 1, 1, 1, 1, 1, 1, 1, 1, 1, 1, 1, 1] bP
theorem fl1 : findLabel xP 1 = some (.seq .skip r1) := by kernel_rfl
theorem fl0 : findLabel xP 0 = some (.seq .skip r0) := by kernel_rfl
theorem fl2 : findLabel xP 2 = some (.seq .skip r2) := by kernel_rfl
/-! ### what may be called -/
theorem RPlain_fn : Fun1 RPlain := by
  rintro args r r' ⟨c, rfl, rfl⟩ ⟨c', h, rfl⟩
  simp only [List.cons.injEq, AV.int.injEq, and_true, true_and] at h
  rw [h]
theorem RAfter_fn : Fun1 RAfter := by
  rintro args r r' ⟨c, rfl, rfl⟩ ⟨c', h, rfl⟩
  simp only [List.cons.injEq, AV.int.injEq, and_true, true_and] at h
  rw [h]
theorem RTimes_fn : Fun1 RTimes := by
  rintro args r r' ⟨s, a, v, _, _, rfl, rfl⟩ ⟨s', a', v', _, _, h, rfl⟩
  simp only [List.cons.injEq, AV.fptr.injEq, AV.str.injEq, AV.int.injEq, and_true, true_and] at h
  rw [h.1, h.2.1]
noncomputable def XPz : FuncId → List AV → Option AV := tabLook [(35, tRel RPlain), (37, tRel RAfter), (41, tRel RMany), (38, tRel RTimes)]
theorem XPz_ok : CPSound Tryd.prog XPz := tab_cons (tab_cons (tab_cons (tab_cons (tab_nil _) (tRel_ok times_ok)) (tRel_ok many_ok)) (tRel_ok after_ok)) (tRel_ok plain_ok)
theorem XPz_plain (c : UInt8) : XPz 35 [.int .u8 c.toNat] = some (nodeV (plainN c.toNat)) := tRel_eq RPlain_fn ⟨c, rfl, rfl⟩
theorem XPz_after (c : UInt8) : XPz 37 [.int .u8 c.toNat] = some (.int .i64 (afterN c.toNat)) := tRel_eq RAfter_fn ⟨c, rfl, rfl⟩
theorem XPz_many (k : Int) (l : List Nd) (h0 : l ≠ []) (h1 : l.length ≤ 1000) : XPz 41 [.int .i64 k, slN l] = some (nodeV (manyN k l)) := tRel_eq RMany_fn ⟨k, l, h0, h1, rfl, rfl⟩
theorem XPz_times (s at_ v) (h0 : 0 ≤ at_) (h1 : at_ ≤ 1000) : XPz 38 [.fptr [.str s, .int .i64 at_, v]] = some (.tup [.int .i64 (timesN s at_).1, .int .i64 (timesN s at_).2.1, .int .i64 (timesN s at_).2.2]) := tRel_eq RTimes_fn ⟨s, at_, v, h0, h1, rfl, rfl⟩
noncomputable def crP : CallR := tabLookR [(33, cTop), (32, cClo), (36, cCls), (39, cBeh), (40, cOr)]
theorem crP_ok : CRSound Tryd.prog crP ∧ Up crP := tabR_cons (tabR_cons (tabR_cons (tabR_cons (tabR_cons (tabR_nil _) cOr_ok) cBeh_ok) cCls_ok) cClo_ok) cTop_ok (fun _ => cTop_keep)
theorem crP_top : crP 33 = cTop := rfl
theorem crP_clo : crP 32 = cClo := rfl
theorem crP_cls : crP 36 = cCls := rfl
theorem crP_beh : crP 39 = cBeh := rfl
theorem crP_or : crP 40 = cOr := rfl
def nzP : Nat → Option (List (Nat × Nat))
  | 17 => some [(1, 5), (4, 5)]
  | 18 => some [(0, 6), (1, 6), (4, 6), (0, 7)]
  | 39 => some [(1, 5), (4, 5)]
  | _ => none
theorem lookP (X) : lookedAt (EX md0 X) nzP 1 Tryd.f18 = true := by kernel_rfl
/-! ### the invariant -/
structure PS (s : List UInt8) (a : AAct) (o : Ob) (nx : Nat) (at_ : Int) (U J : List Nd) (B : Lvs) (g : Tag) (b D : Nat) (pre : List AV) (vU vJ : AV) (post : List AV) : Prop where
  a0 : a 0 = .str s
  a2 : a 2 = .ptr (0, 2) (0, 2) 0
  a5 : a 5 = .ptr (2, 5) (2, 5) 0
  a6 : a 6 = .fn (.func 32) [] [.ptr (2, 5) (2, 5) 0]
  a7 : a 7 = .fn (.func 33) [parP] []
  o2 : o (0, 2) = some (.row ⟨29, 1, (0, 2), false, true, nd0⟩)
  stk : Stk o nx s at_ g B.length pre vU vJ post
  bel : Below o at_.toNat b pre B
  b3 : 3 ≤ b
  bn : b ≤ nx
  lv : Lv b o nx D vU vJ U J
  D1 : D ≤ at_.toNat
  U1 : U.length ≤ at_.toNat
  J1 : J.length ≤ at_.toNat
  at0 : 0 ≤ at_
  at1 : at_ ≤ 210
def PI (s : List UInt8) (R : Nd × Int × Int) (l m : Nat) (a : AAct) (o : Ob) (nx : Nat) : Prop := ∃ at_ U J B g b D pre vU vJ post, PS s a o nx at_ U J B g b D pre vU vJ post ∧
  ((l = 1 ∧ ∃ f, m = f + 2 ∧ 1 ≤ f ∧ (s.length : Int) - at_ < f ∧ pGo s f at_ U J B = R) ∨ (l = 0 ∧ m = 1 ∧ (if B ≠ [] ∨ J = [] then (zeroN, at_, 3) else (manyN 5 (U ++ [manyN 4 J]), 0, 0)) = R) ∨ (l = 2 ∧ m = 0 ∧ (zeroN, at_, 3) = R))
def RetOK (R : Nd × Int × Int) (a : AAct) (o : Ob) : Prop := a 2 = .ptr (0, 2) (0, 2) 0 ∧ (∃ cs, o (0, 2) = some (.row ⟨29, 1, (0, 2), false, true, cs⟩) ∧ cs.length = 5 ∧ ∀ (o' : Ob) (e : Nat), cs.map (view o' e) = cNd R.1) ∧ a 3 = .int .i64 R.2.1 ∧ a 4 = .int .i64 R.2.2
def AOk (s : List UInt8) (a : AAct) : Prop := a 0 = .str s ∧ a 2 = .ptr (0, 2) (0, 2) 0 ∧ a 5 = .ptr (2, 5) (2, 5) 0 ∧ a 6 = .fn (.func 32) [] [.ptr (2, 5) (2, 5) 0] ∧ a 7 = .fn (.func 33) [parP] []
theorem PS.same {s a a' o nx nx' at_ U J B g b D pre vU vJ post} (h : PS s a o nx at_ U J B g b D pre vU vJ post) (ha : AOk s a') (hn : nx ≤ nx') : PS s a' o nx' at_ U J B g b D pre vU vJ post :=
  ⟨ha.1, ha.2.1, ha.2.2.1, ha.2.2.2.1, ha.2.2.2.2, h.o2, h.stk.keep hn rfl rfl rfl, h.bel, h.b3, by have := h.bn; omega, h.lv.keep hn (fun _ _ _ _ _ => rfl), h.D1, h.U1, h.J1, h.at0, h.at1⟩
theorem KeepL.o2 {b n : Nat} {o o' : Ob} (h : KeepL b n o o') (hb : 3 ≤ b) (hn : b ≤ n) : o' (0, 2) = o (0, 2) := h 0 2 (by omega) (by decide) (by decide) (by intro; omega)
theorem PS.next {s : List UInt8} {a' : AAct} {o o' : Ob} {nx nx' nx'' N : Nat} {at_ at' : Int} {U J : List Nd} {B : Lvs} {g : Tag} {b D : Nat} {pre : List AV} {vU vJ : AV} {post : List AV} (ha : AOk s a') (ho2 : o (0, 2) = some (.row ⟨29, 1, (0, 2), false, true, nd0⟩))
    (stk : Stk o' nx' s at_ g B.length pre vU vJ post) (bel : Below o N b pre B) (b3 : 3 ≤ b) (bn : b ≤ nx) (kl : KeepL b nx o o') (hn : nx ≤ nx') (hn2 : nx' ≤ nx'') (lv : Lv b o' nx' D vU vJ U J) (hN : N ≤ at'.toNat) (hD : D ≤ at'.toNat) (hU : U.length ≤ at'.toNat) (hJ : J.length ≤ at'.toNat) (h0 : 0 ≤ at') (h1 : at' ≤ 210) :
    PS s a' (upd o' (2, 23) (.row ⟨63, 1, (2, 23), false, true, [.str s, .int .i64 at', .ref (2, 21) g 0 (B.length + 1)]⟩)) nx'' at' U J B g b D pre vU vJ post := by
  refine ⟨ha.1, ha.2.1, ha.2.2.1, ha.2.2.2.1, ha.2.2.2.2, ?_, stk.at hn2, bel.keep hN ?_, b3, by omega, lv.keep hn2 (fun i k e1 e2 e3 => ?_), hD, hU, hJ, h0, h1⟩
  · rw [upd_off (by decide), kl.o2 b3 bn, ho2]
  · intro i k e1 e2
    have : (i, k) ≠ (2, 23) := by intro e; cases e; omega
    rw [upd_off this]
    exact kl.below bn i k e1 e2
  · exact upd_off (by intro e; cases e; omega)
theorem classF_in (s : List UInt8) : ∀ (m : Nat) (a out : Int), a ≤ (classF s m a out).2.2 ∧ (classF s m a out).2.2 ≤ a + m
  | 0, a, out => by rw [classF]; show a ≤ a ∧ a ≤ a + ((0 : Nat) : Int); omega
  | m + 1, a, out => by
    rw [classF]
    split
    · show a ≤ a ∧ a ≤ a + ((m + 1 : Nat) : Int); omega
    · have := classF_in s m (a + 1) (orN out (signN (byteN s a)))
      omega
theorem PS.push {s : List UInt8} {a a' : AAct} {o o' : Ob} {nx nx' : Nat} {at_ : Int} {U J : List Nd} {B : Lvs} {g g' : Tag} {b D : Nat} {pre : List AV} {vU vJ : AV} {post : List AV} (h : PS s a o nx at_ U J B g b D pre vU vJ post) (ha : AOk s a') (hn : nx ≤ nx') (hk : ∀ i k, i < nx → (i, k) ≠ (2, 21) → (i, k) ≠ (2, 23) → o' (i, k) = o (i, k)) (h1 : at_ + 1 ≤ 210)
    (stk : Stk o' nx' s (at_ + 1) g' (B.length + 1) (pre ++ [vU, vJ]) .nil .nil []) : PS s a' o' nx' (at_ + 1) [] [] ((U, J) :: B) g' nx 0 (pre ++ [vU, vJ]) .nil .nil [] := by
  obtain ⟨_, _, _, _, _, o2, stk0, bel, b3, bn, lv, D1, U1, J1, at0, at1⟩ := h
  refine ⟨ha.1, ha.2.1, ha.2.2.1, ha.2.2.2.1, ha.2.2.2.2, ?_, stk, .cons b nx D pre vU vJ U J B (bel.keep (by omega) (fun i k e1 e2 => hk i k (by omega) (by intro e; cases e; omega) (by intro e; cases e; omega))) b3 bn (lv.keep (by omega) (fun i k e1 e2 e3 => hk i k e2 (by intro e; cases e; omega) (by intro e; cases e; omega))) (by omega) (by omega) (by omega), by omega, hn, ⟨.inl ⟨rfl, rfl⟩, .inl ⟨rfl, rfl⟩⟩, by omega, by simp, by simp, by omega, h1⟩
  rw [hk 0 2 (by omega) (by decide) (by decide), o2]
theorem Lv.viewU {b : Nat} {o : Ob} {nx D : Nat} {vU vJ : AV} {U J : List Nd} (h : Lv b o nx D vU vJ U J) (hU : U ≠ []) : A.view o 1012 vU = slN U := by
  rcases h.u with ⟨_, e⟩ | ⟨i, gu, i1, i2, rfl, i3⟩
  · exact absurd e hU
  have hl := cNds_length U
  have htk : (cNds U).take (U.length * 5) = cNds U := take_len hl
  have hv := view_cNds o 1011 U
  simp (disch := omega) only [go_sem, ↓IntWalk.iteOmega, IntWalk.toNatUp, Nat.reduceEqDiff, Nat.reduceAdd, Nat.reduceMul, Nat.reduceSub, Nat.reduceLT, Nat.reduceLeDiff, Int.reduceToNat, Int.reduceLT, Int.reduceLE, Int.reduceEq, Int.reduceAdd, Int.reduceSub, Int.reduceMul, Int.toNat_natCast, reduceCtorEq, decide_true, decide_false, IntWalk.i64_in, IntWalk.u64_in, IntWalk.u8_in, i3, hl, htk, hv]
theorem Lv.tagsU {b : Nat} {o : Ob} {nx D : Nat} {vU vJ : AV} {U J : List Nd} (h : Lv b o nx D vU vJ U J) (t : Tag) (ht : t ∈ viewTags o 1012 vU) : t.2 = 14 ∧ b ≤ t.1 ∧ t.1 < nx := by
  rcases h.u with ⟨rfl, e⟩ | ⟨i, gu, i1, i2, rfl, i3⟩
  · simp [viewTags] at ht
  have hl := cNds_length U
  have htk : (cNds U).take (U.length * 5) = cNds U := take_len hl
  simp (disch := omega) only [go_sem, ↓IntWalk.iteOmega, IntWalk.toNatUp, Nat.reduceEqDiff, Nat.reduceAdd, Nat.reduceMul, Nat.reduceSub, Nat.reduceLT, Nat.reduceLeDiff, Int.reduceToNat, Int.reduceLT, Int.reduceLE, Int.reduceEq, Int.reduceAdd, Int.reduceSub, Int.reduceMul, Int.toNat_natCast, reduceCtorEq, decide_true, decide_false, IntWalk.i64_in, IntWalk.u64_in, IntWalk.u8_in, i3, htk] at ht
  simp only [List.drop_zero, htk, tags_cNds, List.mem_singleton] at ht
  subst ht
  exact ⟨rfl, i1, i2⟩
theorem zero_view (o' : Ob) (e : Nat) : nd0.map (view o' e) = cNd zeroN := by
  rw [cNd_mk, slN, cNds_nil]
  cases e <;> rfl
set_option maxHeartbeats 4000000 in
theorem lab1 {s : List UInt8} {R : Nd × Int × Int} (hs : s.length ≤ 200) {f : Nat} {a : AAct} {o : Ob} {nx : Nat} {at_ U J B g b D pre vU vJ post} (h : PS s a o nx at_ U J B g b D pre vU vJ post) (hf1 : 1 ≤ f) (hf : (s.length : Int) - at_ < f) (hR : pGo s f at_ U J B = R) {Q : WPost}
    (q1 : ∀ a o nx m', m' < f + 2 → PI s R 1 m' a o nx → Q (.goto 1) a o nx) (q0 : ∀ a o nx m', m' < f + 2 → PI s R 0 m' a o nx → Q (.goto 0) a o nx) (q2 : ∀ a o nx m', m' < f + 2 → PI s R 2 m' a o nx → Q (.goto 2) a o nx) (qr : ∀ a o nx, RetOK R a o → Q .ret a o nx) {k : Nat} :
    WP (EX md0 XPz) crP k nzP r1 a o nx Q := by
  have hps := h
  obtain ⟨a0, a2, a5, a6, a7, o2, stk, bel, b3, bn, lv, D1, U1, J1, at0, at1⟩ := h
  have hcell := stk.cell
  have hpar := stk.par
  have hlev := stk.lev
  have hpre := stk.len
  have hle := stk.le
  obtain ⟨f, rfl⟩ : ∃ f', f = f' + 1 := ⟨f - 1, by omega⟩
  simp only [r1, bP, pathC, Tryd.f18, Option.getD_some]
  by_cases c1 : (s.length : Int) ≤ at_
  · rw [pGo, if_pos c1] at hR
    simp (disch := omega) only [go_sem, ↓IntWalk.iteOmega, IntWalk.toNatUp, Nat.reduceEqDiff, Nat.reduceAdd, Nat.reduceMul, Nat.reduceSub, Nat.reduceLT, Nat.reduceLeDiff, Int.reduceToNat, Int.reduceLT, Int.reduceLE, Int.reduceEq, Int.reduceAdd, Int.reduceSub, Int.reduceMul, Int.toNat_natCast, reduceCtorEq, decide_true, decide_false, IntWalk.i64_in, IntWalk.u64_in, IntWalk.u8_in, nzP, a0, a2, a5, a6, a7, o2, hcell, hpar, hlev, c1]
    exact q0 _ _ _ 1 (by omega) ⟨_, _, _, _, _, _, _, _, _, _, _, hps.same (by unfold AOk; simp (disch := omega) only [go_sem, ↓IntWalk.iteOmega, IntWalk.toNatUp, Nat.reduceEqDiff, Nat.reduceAdd, Nat.reduceMul, Nat.reduceSub, Nat.reduceLT, Nat.reduceLeDiff, Int.reduceToNat, Int.reduceLT, Int.reduceLE, Int.reduceEq, Int.reduceAdd, Int.reduceSub, Int.reduceMul, Int.toNat_natCast, reduceCtorEq, decide_true, decide_false, IntWalk.i64_in, IntWalk.u64_in, IntWalk.u8_in, a0, a2, a5, a6, a7]) (by omega), .inr (.inl ⟨rfl, rfl, hR⟩)⟩
  obtain ⟨c, hc, hb⟩ := byte_at at0 c1
  have hpl := XPz_plain c
  have haf := XPz_after c
  rw [pGo, if_neg c1, hb] at hR
  have hk1 : ∀ n : Nd, take1 false 1 (cNd n) = some (.int .i64 (kindN n)) := fun n => by cases n; rw [cNd_mk]; rfl
  by_cases c2 : kindN (plainN c.toNat) = 0
  · rw [if_neg (fun e => e c2)] at hR
    by_cases c3 : (c.toNat : Int) = 91
    · rw [if_pos c3] at hR
      rw [c3] at hpl c2
      simp (disch := omega) only [go_sem, ↓IntWalk.iteOmega, IntWalk.toNatUp, Nat.reduceEqDiff, Nat.reduceAdd, Nat.reduceMul, Nat.reduceSub, Nat.reduceLT, Nat.reduceLeDiff, Int.reduceToNat, Int.reduceLT, Int.reduceLE, Int.reduceEq, Int.reduceAdd, Int.reduceSub, Int.reduceMul, Int.toNat_natCast, reduceCtorEq, decide_true, decide_false, IntWalk.i64_in, IntWalk.u64_in, IntWalk.u8_in, nzP, a0, a2, a5, a6, a7, o2, hcell, hpar, hlev, c1, hc, hpl, hk1, c2, c3, crP_cls]
      have hst : ∀ n, nx ≤ n → Stk (upd o (2, 23) (.row ⟨63, 1, (2, 23), false, true, [.str s, .int .i64 (at_ + 1), .ref (2, 21) g 0 (B.length + 1)]⟩)) n s (at_ + 1) g B.length pre vU vJ post := fun n hn => stk.at hn
      have hq := classF_in s (s.length - (at_ + 1).toNat) (at_ + 1) 0
      refine cls_call (hst _ ?_) (by omega) (by omega) hs (fun o' nx' e1 e2 e3 => ?_)
      · omega
      generalize classF s (s.length - (at_ + 1).toNat) (at_ + 1) 0 = q at *
      obtain ⟨q1', q2', q3'⟩ := q
      have hkl : KeepL b nx o o' := fun i k hi b1 b2 b3 => by rw [e3 _ b2 (by show i < _; omega), upd_off b2]
      have lv' : Lv b o' nx' D vU vJ U J := lv.keep (by omega) (fun i k f1 f2 f3 => by rw [e3 _ (by intro e; cases e; omega) (by show i < _; omega), upd_off (by intro e; cases e; omega)])
      have hcell' := e2.cell
      have hpar' := e2.par
      have o2' := (hkl.o2 b3 bn).trans o2
      simp only at hR e2 hpar' hq
      cases q2' with
      | false =>
        simp (disch := omega) only [go_sem, ↓IntWalk.iteOmega, IntWalk.toNatUp, Nat.reduceEqDiff, Nat.reduceAdd, Nat.reduceMul, Nat.reduceSub, Nat.reduceLT, Nat.reduceLeDiff, Int.reduceToNat, Int.reduceLT, Int.reduceLE, Int.reduceEq, Int.reduceAdd, Int.reduceSub, Int.reduceMul, Int.toNat_natCast, reduceCtorEq, decide_true, decide_false, IntWalk.i64_in, IntWalk.u64_in, IntWalk.u8_in, nzP, a0, a2, a5, a6, a7, hcell', hpar', c3]
        rw [if_pos rfl] at hR
        exact q2 _ _ _ 0 (by omega) ⟨_, U, J, B, g, b, D, pre, vU, vJ, post, ⟨by simp (disch := omega) only [go_sem, ↓IntWalk.iteOmega, IntWalk.toNatUp, Nat.reduceEqDiff, Nat.reduceAdd, Nat.reduceMul, Nat.reduceSub, Nat.reduceLT, Nat.reduceLeDiff, Int.reduceToNat, Int.reduceLT, Int.reduceLE, Int.reduceEq, Int.reduceAdd, Int.reduceSub, Int.reduceMul, Int.toNat_natCast, reduceCtorEq, decide_true, decide_false, IntWalk.i64_in, IntWalk.u64_in, IntWalk.u8_in, a0], by simp (disch := omega) only [go_sem, ↓IntWalk.iteOmega, IntWalk.toNatUp, Nat.reduceEqDiff, Nat.reduceAdd, Nat.reduceMul, Nat.reduceSub, Nat.reduceLT, Nat.reduceLeDiff, Int.reduceToNat, Int.reduceLT, Int.reduceLE, Int.reduceEq, Int.reduceAdd, Int.reduceSub, Int.reduceMul, Int.toNat_natCast, reduceCtorEq, decide_true, decide_false, IntWalk.i64_in, IntWalk.u64_in, IntWalk.u8_in, a2], by simp (disch := omega) only [go_sem, ↓IntWalk.iteOmega, IntWalk.toNatUp, Nat.reduceEqDiff, Nat.reduceAdd, Nat.reduceMul, Nat.reduceSub, Nat.reduceLT, Nat.reduceLeDiff, Int.reduceToNat, Int.reduceLT, Int.reduceLE, Int.reduceEq, Int.reduceAdd, Int.reduceSub, Int.reduceMul, Int.toNat_natCast, reduceCtorEq, decide_true, decide_false, IntWalk.i64_in, IntWalk.u64_in, IntWalk.u8_in, a5], by simp (disch := omega) only [go_sem, ↓IntWalk.iteOmega, IntWalk.toNatUp, Nat.reduceEqDiff, Nat.reduceAdd, Nat.reduceMul, Nat.reduceSub, Nat.reduceLT, Nat.reduceLeDiff, Int.reduceToNat, Int.reduceLT, Int.reduceLE, Int.reduceEq, Int.reduceAdd, Int.reduceSub, Int.reduceMul, Int.toNat_natCast, reduceCtorEq, decide_true, decide_false, IntWalk.i64_in, IntWalk.u64_in, IntWalk.u8_in, a6], by simp (disch := omega) only [go_sem, ↓IntWalk.iteOmega, IntWalk.toNatUp, Nat.reduceEqDiff, Nat.reduceAdd, Nat.reduceMul, Nat.reduceSub, Nat.reduceLT, Nat.reduceLeDiff, Int.reduceToNat, Int.reduceLT, Int.reduceLE, Int.reduceEq, Int.reduceAdd, Int.reduceSub, Int.reduceMul, Int.toNat_natCast, reduceCtorEq, decide_true, decide_false, IntWalk.i64_in, IntWalk.u64_in, IntWalk.u8_in, a7], o2', e2.keep (by omega) rfl rfl rfl, bel.keep (by omega) (hkl.below bn), b3, by omega, lv'.keep (by omega) (fun _ _ _ _ _ => rfl), by omega, by omega, by omega, by omega, by omega⟩, .inr (.inr ⟨rfl, rfl, hR⟩)⟩
      | true =>
        simp (disch := omega) only [go_sem, ↓IntWalk.iteOmega, IntWalk.toNatUp, Nat.reduceEqDiff, Nat.reduceAdd, Nat.reduceMul, Nat.reduceSub, Nat.reduceLT, Nat.reduceLeDiff, Int.reduceToNat, Int.reduceLT, Int.reduceLE, Int.reduceEq, Int.reduceAdd, Int.reduceSub, Int.reduceMul, Int.toNat_natCast, reduceCtorEq, decide_true, decide_false, IntWalk.i64_in, IntWalk.u64_in, IntWalk.u8_in, nzP, a0, a2, a5, a6, a7, hcell', hpar', crP_clo, c3]
        rw [if_neg (by decide)] at hR
        refine clo_call (.leaf D 1 q1' 0 0) (e2.keep (by omega) rfl rfl rfl) (lv'.keep (by omega) (fun _ _ _ _ _ => rfl)) b3 (by omega) (by omega) (fun o3 nx3 vJ3 f1 f2 f3 f4 => ?_)
        have hcell3 := f2.cell
        have hpar3 := f2.par
        simp (disch := omega) only [go_sem, ↓IntWalk.iteOmega, IntWalk.toNatUp, Nat.reduceEqDiff, Nat.reduceAdd, Nat.reduceMul, Nat.reduceSub, Nat.reduceLT, Nat.reduceLeDiff, Int.reduceToNat, Int.reduceLT, Int.reduceLE, Int.reduceEq, Int.reduceAdd, Int.reduceSub, Int.reduceMul, Int.toNat_natCast, reduceCtorEq, decide_true, decide_false, IntWalk.i64_in, IntWalk.u64_in, IntWalk.u8_in, nzP, a0, a2, a5, a6, a7, hcell3, hpar3]
        exact q1 _ _ _ (f + 2) (by omega) ⟨_, _, _, _, _, _, _, _, _, _, _, PS.next (by unfold AOk; simp (disch := omega) only [go_sem, ↓IntWalk.iteOmega, IntWalk.toNatUp, Nat.reduceEqDiff, Nat.reduceAdd, Nat.reduceMul, Nat.reduceSub, Nat.reduceLT, Nat.reduceLeDiff, Int.reduceToNat, Int.reduceLT, Int.reduceLE, Int.reduceEq, Int.reduceAdd, Int.reduceSub, Int.reduceMul, Int.toNat_natCast, reduceCtorEq, decide_true, decide_false, IntWalk.i64_in, IntWalk.u64_in, IntWalk.u8_in, a0, a2, a5, a6, a7]) o2 f2 bel b3 bn (fun i k hi b1 b2 b3 => (f4 i k (by omega) b1 b2 b3).trans (hkl i k hi b1 b2 b3)) (by omega) (by omega) f3 (N := at_.toNat) (by omega) (by omega) (by omega) (by rw [List.length_append, List.length_singleton]; omega) (by omega) (by omega), .inl ⟨rfl, f, rfl, by omega, by omega, hR⟩⟩
    rw [if_neg c3] at hR
    by_cases c4 : (c.toNat : Int) = 40
    · rw [if_pos c4] at hR
      rw [c4] at hpl c2
      by_cases c5 : B.length + 1 > 30
      · rw [if_pos c5] at hR
        simp (disch := omega) only [go_sem, ↓IntWalk.iteOmega, IntWalk.toNatUp, Nat.reduceEqDiff, Nat.reduceAdd, Nat.reduceMul, Nat.reduceSub, Nat.reduceLT, Nat.reduceLeDiff, Int.reduceToNat, Int.reduceLT, Int.reduceLE, Int.reduceEq, Int.reduceAdd, Int.reduceSub, Int.reduceMul, Int.toNat_natCast, reduceCtorEq, decide_true, decide_false, IntWalk.i64_in, IntWalk.u64_in, IntWalk.u8_in, nzP, a0, a2, a5, a6, a7, o2, hcell, hpar, hlev, c1, hc, hpl, hk1, c2, c4, c5]
        subst hR
        exact qr _ _ _ ⟨by simp (disch := omega) only [go_sem, ↓IntWalk.iteOmega, IntWalk.toNatUp, Nat.reduceEqDiff, Nat.reduceAdd, Nat.reduceMul, Nat.reduceSub, Nat.reduceLT, Nat.reduceLeDiff, Int.reduceToNat, Int.reduceLT, Int.reduceLE, Int.reduceEq, Int.reduceAdd, Int.reduceSub, Int.reduceMul, Int.toNat_natCast, reduceCtorEq, decide_true, decide_false, IntWalk.i64_in, IntWalk.u64_in, IntWalk.u8_in, a2], ⟨nd0, by simp (disch := omega) only [go_sem, ↓IntWalk.iteOmega, IntWalk.toNatUp, Nat.reduceEqDiff, Nat.reduceAdd, Nat.reduceMul, Nat.reduceSub, Nat.reduceLT, Nat.reduceLeDiff, Int.reduceToNat, Int.reduceLT, Int.reduceLE, Int.reduceEq, Int.reduceAdd, Int.reduceSub, Int.reduceMul, Int.toNat_natCast, reduceCtorEq, decide_true, decide_false, IntWalk.i64_in, IntWalk.u64_in, IntWalk.u8_in], rfl, zero_view⟩, by simp (disch := omega) only [go_sem, ↓IntWalk.iteOmega, IntWalk.toNatUp, Nat.reduceEqDiff, Nat.reduceAdd, Nat.reduceMul, Nat.reduceSub, Nat.reduceLT, Nat.reduceLeDiff, Int.reduceToNat, Int.reduceLT, Int.reduceLE, Int.reduceEq, Int.reduceAdd, Int.reduceSub, Int.reduceMul, Int.toNat_natCast, reduceCtorEq, decide_true, decide_false, IntWalk.i64_in, IntWalk.u64_in, IntWalk.u8_in], by simp (disch := omega) only [go_sem, ↓IntWalk.iteOmega, IntWalk.toNatUp, Nat.reduceEqDiff, Nat.reduceAdd, Nat.reduceMul, Nat.reduceSub, Nat.reduceLT, Nat.reduceLeDiff, Int.reduceToNat, Int.reduceLT, Int.reduceLE, Int.reduceEq, Int.reduceAdd, Int.reduceSub, Int.reduceMul, Int.toNat_natCast, reduceCtorEq, decide_true, decide_false, IntWalk.i64_in, IntWalk.u64_in, IntWalk.u8_in]⟩
      · rw [if_neg c5] at hR
        have htk : (pre ++ vU :: vJ :: post).take ((B.length + 1) * 2) = pre ++ [vU, vJ] := by
          have : pre ++ vU :: vJ :: post = (pre ++ [vU, vJ]) ++ post := by simp
          rw [this]
          exact List.take_left' (by rw [List.length_append, hpre]; show _ + 2 = _; omega)
        simp (disch := omega) only [go_sem, ↓IntWalk.iteOmega, IntWalk.toNatUp, Nat.reduceEqDiff, Nat.reduceAdd, Nat.reduceMul, Nat.reduceSub, Nat.reduceLT, Nat.reduceLeDiff, Int.reduceToNat, Int.reduceLT, Int.reduceLE, Int.reduceEq, Int.reduceAdd, Int.reduceSub, Int.reduceMul, Int.toNat_natCast, reduceCtorEq, decide_true, decide_false, IntWalk.i64_in, IntWalk.u64_in, IntWalk.u8_in, nzP, a0, a2, a5, a6, a7, o2, hcell, hpar, hlev, c1, hc, hpl, hk1, c2, c4, c5, htk]
        refine q1 _ _ _ (f + 2) (by omega) ⟨_, _, _, _, _, _, _, _, _, _, _, hps.push (a' := _) (g' := (nx + 1 + 1 + 1 + 1 + 1 + 1, 91)) (by unfold AOk; simp (disch := omega) only [go_sem, ↓IntWalk.iteOmega, IntWalk.toNatUp, Nat.reduceEqDiff, Nat.reduceAdd, Nat.reduceMul, Nat.reduceSub, Nat.reduceLT, Nat.reduceLeDiff, Int.reduceToNat, Int.reduceLT, Int.reduceLE, Int.reduceEq, Int.reduceAdd, Int.reduceSub, Int.reduceMul, Int.toNat_natCast, reduceCtorEq, decide_true, decide_false, IntWalk.i64_in, IntWalk.u64_in, IntWalk.u8_in, a0, a2, a5, a6, a7]) (nx' := _) (by omega) (fun i k hi b1 b2 => ?_) (by omega) ⟨by omega, by simp [upd_app, hcell], upd_same _ _ _, ?_, by rw [List.length_append, hpre]; show _ + 2 = _; omega, by omega⟩, .inl ⟨rfl, f, rfl, by omega, by omega, hR⟩⟩
        · have e1 : ¬ i = nx + 1 + 1 + 1 + 1 + 1 + 1 := by omega
          rw [upd_off b2, upd_off b2, upd_off b1]
          simp [upd_app, e1]
        · simp [upd_app]
    rw [if_neg c4] at hR
    have d0 : ∀ x y : AV, (pre ++ x :: y :: post).drop (B.length * 2) = x :: y :: post := fun x y => drop_p0 hpre
    have d1 : ∀ x y : AV, (pre ++ x :: y :: post).drop (B.length * 2 + 1) = y :: post := fun x y => drop_p1 hpre
    have h6 : ∀ x y : AV, (pre ++ x :: y :: post).length = B.length * 2 + (post.length + 2) := fun x y => by rw [List.length_append, hpre]; rfl
    by_cases c6 : J = []
    · rw [if_pos c6] at hR
      have hvJ : vJ = .nil ∨ ∃ i gj, vJ = .ref (i, 11) gj 0 0 := by
        rcases lv.j with ⟨e, _⟩ | ⟨i, gj, cs, _, _, e, _, _⟩
        · exact .inl e
        · exact .inr ⟨i, gj, by rw [e, c6]; rfl⟩
      simp (disch := omega) only [go_sem, ↓IntWalk.iteOmega, IntWalk.toNatUp, Nat.reduceEqDiff, Nat.reduceAdd, Nat.reduceMul, Nat.reduceSub, Nat.reduceLT, Nat.reduceLeDiff, Int.reduceToNat, Int.reduceLT, Int.reduceLE, Int.reduceEq, Int.reduceAdd, Int.reduceSub, Int.reduceMul, Int.toNat_natCast, reduceCtorEq, decide_true, decide_false, IntWalk.i64_in, IntWalk.u64_in, IntWalk.u8_in, nzP, a0, a2, a5, a6, a7, o2, hcell, hpar, hlev, c1, hc, hpl, hk1, c2, c3, c4, crP_top]
      refine top_call (stk.keep (by omega) rfl rfl rfl) ?_
      rcases hvJ with rfl | ⟨i, gj, rfl⟩
      · simp (disch := omega) only [go_sem, ↓IntWalk.iteOmega, IntWalk.toNatUp, Nat.reduceEqDiff, Nat.reduceAdd, Nat.reduceMul, Nat.reduceSub, Nat.reduceLT, Nat.reduceLeDiff, Int.reduceToNat, Int.reduceLT, Int.reduceLE, Int.reduceEq, Int.reduceAdd, Int.reduceSub, Int.reduceMul, Int.toNat_natCast, reduceCtorEq, decide_true, decide_false, IntWalk.i64_in, IntWalk.u64_in, IntWalk.u8_in, nzP, a0, a2, a5, a6, a7, o2, hcell, hpar, hlev, d0, d1, h6]
        exact q2 _ _ _ 0 (by omega) ⟨_, _, _, _, _, _, _, _, _, _, _, hps.same (by unfold AOk; simp (disch := omega) only [go_sem, ↓IntWalk.iteOmega, IntWalk.toNatUp, Nat.reduceEqDiff, Nat.reduceAdd, Nat.reduceMul, Nat.reduceSub, Nat.reduceLT, Nat.reduceLeDiff, Int.reduceToNat, Int.reduceLT, Int.reduceLE, Int.reduceEq, Int.reduceAdd, Int.reduceSub, Int.reduceMul, Int.toNat_natCast, reduceCtorEq, decide_true, decide_false, IntWalk.i64_in, IntWalk.u64_in, IntWalk.u8_in, a0, a2, a5, a6, a7]) (by omega), .inr (.inr ⟨rfl, rfl, hR⟩)⟩
      · simp (disch := omega) only [go_sem, ↓IntWalk.iteOmega, IntWalk.toNatUp, Nat.reduceEqDiff, Nat.reduceAdd, Nat.reduceMul, Nat.reduceSub, Nat.reduceLT, Nat.reduceLeDiff, Int.reduceToNat, Int.reduceLT, Int.reduceLE, Int.reduceEq, Int.reduceAdd, Int.reduceSub, Int.reduceMul, Int.toNat_natCast, reduceCtorEq, decide_true, decide_false, IntWalk.i64_in, IntWalk.u64_in, IntWalk.u8_in, nzP, a0, a2, a5, a6, a7, o2, hcell, hpar, hlev, d0, d1, h6]
        exact q2 _ _ _ 0 (by omega) ⟨_, _, _, _, _, _, _, _, _, _, _, hps.same (by unfold AOk; simp (disch := omega) only [go_sem, ↓IntWalk.iteOmega, IntWalk.toNatUp, Nat.reduceEqDiff, Nat.reduceAdd, Nat.reduceMul, Nat.reduceSub, Nat.reduceLT, Nat.reduceLeDiff, Int.reduceToNat, Int.reduceLT, Int.reduceLE, Int.reduceEq, Int.reduceAdd, Int.reduceSub, Int.reduceMul, Int.toNat_natCast, reduceCtorEq, decide_true, decide_false, IntWalk.i64_in, IntWalk.u64_in, IntWalk.u8_in, a0, a2, a5, a6, a7]) (by omega), .inr (.inr ⟨rfl, rfl, hR⟩)⟩
    rw [if_neg c6] at hR
    have hJl : ¬ J.length = 0 := fun e => c6 (List.length_eq_zero_iff.1 e)
    obtain ⟨i, gj, rfl⟩ : ∃ i gj, vJ = .ref (i, 11) gj 0 J.length := by
      rcases lv.j with ⟨_, e⟩ | ⟨i, gj, cs, _, _, e, _, _⟩
      · exact absurd e c6
      · exact ⟨i, gj, e⟩
    have hti : ∀ v, XPz 38 [.fptr [.str s, .int .i64 at_, v]] = some (.tup [.int .i64 (timesN s at_).1, .int .i64 (timesN s at_).2.1, .int .i64 (timesN s at_).2.2]) := fun v => XPz_times s at_ v at0 (by omega)
    obtain ⟨J0, x, hJx⟩ : ∃ J0 x, J = J0 ++ [x] := ⟨J.dropLast, J.getLast c6, (List.dropLast_concat_getLast c6).symm⟩
    have hlast : ∀ k lo hi, lastN k lo hi J = J0 ++ [.mk k 0 lo hi [x]] := fun k lo hi => by rw [lastN, hJx]; simp
    have hJ0 : J.length = J0.length + 1 := by rw [hJx]; simp
    have lv2 : Lv b o nx D vU (.ref (i, 11) gj 0 J.length) U (J0 ++ [x]) := by rw [← hJx]; exact lv
    by_cases c7 : afterN c.toNat = 9
    · rw [if_pos c7] at hR
      simp (disch := omega) only [go_sem, ↓IntWalk.iteOmega, IntWalk.toNatUp, Nat.reduceEqDiff, Nat.reduceAdd, Nat.reduceMul, Nat.reduceSub, Nat.reduceLT, Nat.reduceLeDiff, Int.reduceToNat, Int.reduceLT, Int.reduceLE, Int.reduceEq, Int.reduceAdd, Int.reduceSub, Int.reduceMul, Int.toNat_natCast, reduceCtorEq, decide_true, decide_false, IntWalk.i64_in, IntWalk.u64_in, IntWalk.u8_in, nzP, a0, a2, a5, a6, a7, o2, hcell, hpar, hlev, c1, hc, hpl, hk1, c2, c3, c4, crP_top]
      refine top_call (stk.keep (by omega) rfl rfl rfl) ?_
      simp (disch := omega) only [go_sem, ↓IntWalk.iteOmega, IntWalk.toNatUp, Nat.reduceEqDiff, Nat.reduceAdd, Nat.reduceMul, Nat.reduceSub, Nat.reduceLT, Nat.reduceLeDiff, Int.reduceToNat, Int.reduceLT, Int.reduceLE, Int.reduceEq, Int.reduceAdd, Int.reduceSub, Int.reduceMul, Int.toNat_natCast, reduceCtorEq, decide_true, decide_false, IntWalk.i64_in, IntWalk.u64_in, IntWalk.u8_in, nzP, a0, a2, a5, a6, a7, o2, hcell, hpar, hlev, d0, d1, h6, hJl, haf, c7, hti]
      generalize timesN s at_ = q at *
      obtain ⟨lo, hi, wr⟩ := q
      simp only at hR
      by_cases c8 : 0 ≤ wr
      · rw [if_pos c8] at hR
        simp (disch := omega) only [go_sem, ↓IntWalk.iteOmega, IntWalk.toNatUp, Nat.reduceEqDiff, Nat.reduceAdd, Nat.reduceMul, Nat.reduceSub, Nat.reduceLT, Nat.reduceLeDiff, Int.reduceToNat, Int.reduceLT, Int.reduceLE, Int.reduceEq, Int.reduceAdd, Int.reduceSub, Int.reduceMul, Int.toNat_natCast, reduceCtorEq, decide_true, decide_false, IntWalk.i64_in, IntWalk.u64_in, IntWalk.u8_in, nzP, a0, a2, a5, a6, a7, o2, hcell, hpar, hlev, c8]
        subst hR
        exact qr _ _ _ ⟨by simp (disch := omega) only [go_sem, ↓IntWalk.iteOmega, IntWalk.toNatUp, Nat.reduceEqDiff, Nat.reduceAdd, Nat.reduceMul, Nat.reduceSub, Nat.reduceLT, Nat.reduceLeDiff, Int.reduceToNat, Int.reduceLT, Int.reduceLE, Int.reduceEq, Int.reduceAdd, Int.reduceSub, Int.reduceMul, Int.toNat_natCast, reduceCtorEq, decide_true, decide_false, IntWalk.i64_in, IntWalk.u64_in, IntWalk.u8_in, a2], ⟨nd0, by simp (disch := omega) only [go_sem, ↓IntWalk.iteOmega, IntWalk.toNatUp, Nat.reduceEqDiff, Nat.reduceAdd, Nat.reduceMul, Nat.reduceSub, Nat.reduceLT, Nat.reduceLeDiff, Int.reduceToNat, Int.reduceLT, Int.reduceLE, Int.reduceEq, Int.reduceAdd, Int.reduceSub, Int.reduceMul, Int.toNat_natCast, reduceCtorEq, decide_true, decide_false, IntWalk.i64_in, IntWalk.u64_in, IntWalk.u8_in], rfl, zero_view⟩, by simp (disch := omega) only [go_sem, ↓IntWalk.iteOmega, IntWalk.toNatUp, Nat.reduceEqDiff, Nat.reduceAdd, Nat.reduceMul, Nat.reduceSub, Nat.reduceLT, Nat.reduceLeDiff, Int.reduceToNat, Int.reduceLT, Int.reduceLE, Int.reduceEq, Int.reduceAdd, Int.reduceSub, Int.reduceMul, Int.toNat_natCast, reduceCtorEq, decide_true, decide_false, IntWalk.i64_in, IntWalk.u64_in, IntWalk.u8_in], by simp (disch := omega) only [go_sem, ↓IntWalk.iteOmega, IntWalk.toNatUp, Nat.reduceEqDiff, Nat.reduceAdd, Nat.reduceMul, Nat.reduceSub, Nat.reduceLT, Nat.reduceLeDiff, Int.reduceToNat, Int.reduceLT, Int.reduceLE, Int.reduceEq, Int.reduceAdd, Int.reduceSub, Int.reduceMul, Int.toNat_natCast, reduceCtorEq, decide_true, decide_false, IntWalk.i64_in, IntWalk.u64_in, IntWalk.u8_in]⟩
      · rw [if_neg c8, hlast] at hR
        simp (disch := omega) only [go_sem, ↓IntWalk.iteOmega, IntWalk.toNatUp, Nat.reduceEqDiff, Nat.reduceAdd, Nat.reduceMul, Nat.reduceSub, Nat.reduceLT, Nat.reduceLeDiff, Int.reduceToNat, Int.reduceLT, Int.reduceLE, Int.reduceEq, Int.reduceAdd, Int.reduceSub, Int.reduceMul, Int.toNat_natCast, reduceCtorEq, decide_true, decide_false, IntWalk.i64_in, IntWalk.u64_in, IntWalk.u8_in, nzP, a0, a2, a5, a6, a7, o2, hcell, hpar, hlev, c8, crP_beh]
        refine beh_call 9 lo hi x (stk.keep (by omega) rfl rfl rfl) (lv2.keep (by omega) (fun _ _ _ _ _ => rfl)) b3 (by omega) (by omega) (fun o' nx' vJ' e1 e2 e3 e4 => ?_)
        have hcell' := e2.cell
        have hpar' := e2.par
        simp (disch := omega) only [go_sem, ↓IntWalk.iteOmega, IntWalk.toNatUp, Nat.reduceEqDiff, Nat.reduceAdd, Nat.reduceMul, Nat.reduceSub, Nat.reduceLT, Nat.reduceLeDiff, Int.reduceToNat, Int.reduceLT, Int.reduceLE, Int.reduceEq, Int.reduceAdd, Int.reduceSub, Int.reduceMul, Int.toNat_natCast, reduceCtorEq, decide_true, decide_false, IntWalk.i64_in, IntWalk.u64_in, IntWalk.u8_in, nzP, a0, a2, a5, a6, a7, hcell', hpar']
        refine q1 _ _ _ (f + 2) (by omega) ⟨_, _, _, _, _, _, _, _, _, _, _, PS.next (o' := upd o' (2, 23) _) (nx' := nx') (by unfold AOk; simp (disch := omega) only [go_sem, ↓IntWalk.iteOmega, IntWalk.toNatUp, Nat.reduceEqDiff, Nat.reduceAdd, Nat.reduceMul, Nat.reduceSub, Nat.reduceLT, Nat.reduceLeDiff, Int.reduceToNat, Int.reduceLT, Int.reduceLE, Int.reduceEq, Int.reduceAdd, Int.reduceSub, Int.reduceMul, Int.toNat_natCast, reduceCtorEq, decide_true, decide_false, IntWalk.i64_in, IntWalk.u64_in, IntWalk.u8_in, a0, a2, a5, a6, a7]) o2 (e2.at (by omega)) bel b3 bn (fun i k hi b1 b2 b3 => (upd_off b2).trans (e4 i k (by omega) b1 b2 b3)) (by omega) (by omega) (e3.keep (by omega) (fun i k e1 e2 e3 => upd_off (by intro e; cases e; omega))) (N := at_.toNat) (by omega) (by omega) (by omega) (by rw [List.length_append, List.length_singleton]; omega) (by omega) (by omega), .inl ⟨rfl, f, rfl, by omega, by omega, ?_⟩⟩
        have e45 : at_ + 4 + 1 = at_ + 5 := by omega
        rw [e45]
        exact hR
    rw [if_neg c7] at hR
    by_cases c8 : afterN c.toNat = 0
    · rw [if_neg (fun e => e c8)] at hR
      by_cases c9 : (c.toNat : Int) = 124
      · rw [if_pos c9] at hR
        rw [c9] at hpl c2 haf c8
        simp (disch := omega) only [go_sem, ↓IntWalk.iteOmega, IntWalk.toNatUp, Nat.reduceEqDiff, Nat.reduceAdd, Nat.reduceMul, Nat.reduceSub, Nat.reduceLT, Nat.reduceLeDiff, Int.reduceToNat, Int.reduceLT, Int.reduceLE, Int.reduceEq, Int.reduceAdd, Int.reduceSub, Int.reduceMul, Int.toNat_natCast, reduceCtorEq, decide_true, decide_false, IntWalk.i64_in, IntWalk.u64_in, IntWalk.u8_in, nzP, a0, a2, a5, a6, a7, o2, hcell, hpar, hlev, c1, hc, hpl, hk1, c2, c9, crP_top]
        refine top_call (stk.keep (by omega) rfl rfl rfl) ?_
        simp (disch := omega) only [go_sem, ↓IntWalk.iteOmega, IntWalk.toNatUp, Nat.reduceEqDiff, Nat.reduceAdd, Nat.reduceMul, Nat.reduceSub, Nat.reduceLT, Nat.reduceLeDiff, Int.reduceToNat, Int.reduceLT, Int.reduceLE, Int.reduceEq, Int.reduceAdd, Int.reduceSub, Int.reduceMul, Int.toNat_natCast, reduceCtorEq, decide_true, decide_false, IntWalk.i64_in, IntWalk.u64_in, IntWalk.u8_in, nzP, a0, a2, a5, a6, a7, o2, hcell, hpar, hlev, d0, d1, h6, hJl, haf, c8, crP_top]
        refine top_call (stk.keep (by omega) rfl rfl rfl) ?_
        simp (disch := omega) only [go_sem, ↓IntWalk.iteOmega, IntWalk.toNatUp, Nat.reduceEqDiff, Nat.reduceAdd, Nat.reduceMul, Nat.reduceSub, Nat.reduceLT, Nat.reduceLeDiff, Int.reduceToNat, Int.reduceLT, Int.reduceLE, Int.reduceEq, Int.reduceAdd, Int.reduceSub, Int.reduceMul, Int.toNat_natCast, reduceCtorEq, decide_true, decide_false, IntWalk.i64_in, IntWalk.u64_in, IntWalk.u8_in, nzP, a0, a2, a5, a6, a7, o2, hcell, hpar, hlev, d0, d1, h6, hJl, haf, c8, crP_or]
        refine or_call (stk.keep (by omega) rfl rfl rfl) (lv.keep (by omega) (fun _ _ _ _ _ => rfl)) b3 (by omega) (by omega) c6 (by omega) (by omega) (fun o' nx' vU' e1 e2 e3 e4 => ?_)
        have hcell' := e2.cell
        have hpar' := e2.par
        simp (disch := omega) only [go_sem, ↓IntWalk.iteOmega, IntWalk.toNatUp, Nat.reduceEqDiff, Nat.reduceAdd, Nat.reduceMul, Nat.reduceSub, Nat.reduceLT, Nat.reduceLeDiff, Int.reduceToNat, Int.reduceLT, Int.reduceLE, Int.reduceEq, Int.reduceAdd, Int.reduceSub, Int.reduceMul, Int.toNat_natCast, reduceCtorEq, decide_true, decide_false, IntWalk.i64_in, IntWalk.u64_in, IntWalk.u8_in, nzP, a0, a2, a5, a6, a7, hcell', hpar']
        exact q1 _ _ _ (f + 2) (by omega) ⟨_, _, _, _, _, _, _, _, _, _, _, PS.next (by unfold AOk; simp (disch := omega) only [go_sem, ↓IntWalk.iteOmega, IntWalk.toNatUp, Nat.reduceEqDiff, Nat.reduceAdd, Nat.reduceMul, Nat.reduceSub, Nat.reduceLT, Nat.reduceLeDiff, Int.reduceToNat, Int.reduceLT, Int.reduceLE, Int.reduceEq, Int.reduceAdd, Int.reduceSub, Int.reduceMul, Int.toNat_natCast, reduceCtorEq, decide_true, decide_false, IntWalk.i64_in, IntWalk.u64_in, IntWalk.u8_in, a0, a2, a5, a6, a7]) o2 e2 bel b3 bn (fun i k hi => e4 i k (by omega)) (by omega) (by omega) e3 (N := at_.toNat) (by omega) (by omega) (by rw [List.length_append, List.length_singleton]; omega) (by simp) (by omega) (by omega), .inl ⟨rfl, f, rfl, by omega, by omega, hR⟩⟩
      rw [if_neg c9] at hR
      by_cases c10 : (c.toNat : Int) = 41
      · rw [c10] at hpl c2 haf c8
        by_cases c11 : B = []
        · rw [if_neg (fun e => e.2 c11)] at hR
          have hBl : B.length = 0 := by rw [c11]; rfl
          simp (disch := omega) only [go_sem, ↓IntWalk.iteOmega, IntWalk.toNatUp, Nat.reduceEqDiff, Nat.reduceAdd, Nat.reduceMul, Nat.reduceSub, Nat.reduceLT, Nat.reduceLeDiff, Int.reduceToNat, Int.reduceLT, Int.reduceLE, Int.reduceEq, Int.reduceAdd, Int.reduceSub, Int.reduceMul, Int.toNat_natCast, reduceCtorEq, decide_true, decide_false, IntWalk.i64_in, IntWalk.u64_in, IntWalk.u8_in, nzP, a0, a2, a5, a6, a7, o2, hcell, hpar, hlev, c1, hc, hpl, hk1, c2, c10, crP_top]
          refine top_call (stk.keep (by omega) rfl rfl rfl) ?_
          simp (disch := omega) only [go_sem, ↓IntWalk.iteOmega, IntWalk.toNatUp, Nat.reduceEqDiff, Nat.reduceAdd, Nat.reduceMul, Nat.reduceSub, Nat.reduceLT, Nat.reduceLeDiff, Int.reduceToNat, Int.reduceLT, Int.reduceLE, Int.reduceEq, Int.reduceAdd, Int.reduceSub, Int.reduceMul, Int.toNat_natCast, reduceCtorEq, decide_true, decide_false, IntWalk.i64_in, IntWalk.u64_in, IntWalk.u8_in, nzP, a0, a2, a5, a6, a7, o2, hcell, hpar, hlev, d0, d1, h6, hJl, haf, c8, crP_top]
          exact q2 _ _ _ 0 (by omega) ⟨_, _, _, _, _, _, _, _, _, _, _, hps.same (by unfold AOk; simp (disch := omega) only [go_sem, ↓IntWalk.iteOmega, IntWalk.toNatUp, Nat.reduceEqDiff, Nat.reduceAdd, Nat.reduceMul, Nat.reduceSub, Nat.reduceLT, Nat.reduceLeDiff, Int.reduceToNat, Int.reduceLT, Int.reduceLE, Int.reduceEq, Int.reduceAdd, Int.reduceSub, Int.reduceMul, Int.toNat_natCast, reduceCtorEq, decide_true, decide_false, IntWalk.i64_in, IntWalk.u64_in, IntWalk.u8_in, a0, a2, a5, a6, a7]) (by omega), .inr (.inr ⟨rfl, rfl, hR⟩)⟩
        · rw [if_pos ⟨c10, c11⟩] at hR
          obtain ⟨⟨U', J'⟩, B', hB⟩ : ∃ p B', B = p :: B' := by
            cases B with
            | nil => exact absurd rfl c11
            | cons p B' => exact ⟨p, B', rfl⟩
          have hBl : B.length = B'.length + 1 := by rw [hB]; rfl
          simp (disch := omega) only [go_sem, ↓IntWalk.iteOmega, IntWalk.toNatUp, Nat.reduceEqDiff, Nat.reduceAdd, Nat.reduceMul, Nat.reduceSub, Nat.reduceLT, Nat.reduceLeDiff, Int.reduceToNat, Int.reduceLT, Int.reduceLE, Int.reduceEq, Int.reduceAdd, Int.reduceSub, Int.reduceMul, Int.toNat_natCast, reduceCtorEq, decide_true, decide_false, IntWalk.i64_in, IntWalk.u64_in, IntWalk.u8_in, nzP, a0, a2, a5, a6, a7, o2, hcell, hpar, hlev, c1, hc, hpl, hk1, c2, c10, crP_top]
          refine top_call (stk.keep (by omega) rfl rfl rfl) ?_
          simp (disch := omega) only [go_sem, ↓IntWalk.iteOmega, IntWalk.toNatUp, Nat.reduceEqDiff, Nat.reduceAdd, Nat.reduceMul, Nat.reduceSub, Nat.reduceLT, Nat.reduceLeDiff, Int.reduceToNat, Int.reduceLT, Int.reduceLE, Int.reduceEq, Int.reduceAdd, Int.reduceSub, Int.reduceMul, Int.toNat_natCast, reduceCtorEq, decide_true, decide_false, IntWalk.i64_in, IntWalk.u64_in, IntWalk.u8_in, nzP, a0, a2, a5, a6, a7, o2, hcell, hpar, hlev, d0, d1, h6, hJl, haf, c8, crP_top]
          refine top_call (stk.keep (by omega) rfl rfl rfl) ?_
          simp (disch := omega) only [go_sem, ↓IntWalk.iteOmega, IntWalk.toNatUp, Nat.reduceEqDiff, Nat.reduceAdd, Nat.reduceMul, Nat.reduceSub, Nat.reduceLT, Nat.reduceLeDiff, Int.reduceToNat, Int.reduceLT, Int.reduceLE, Int.reduceEq, Int.reduceAdd, Int.reduceSub, Int.reduceMul, Int.toNat_natCast, reduceCtorEq, decide_true, decide_false, IntWalk.i64_in, IntWalk.u64_in, IntWalk.u8_in, nzP, a0, a2, a5, a6, a7, o2, hcell, hpar, hlev, d0, d1, h6, hJl, haf, c8, crP_or]
          refine or_call (stk.keep (by omega) rfl rfl rfl) (lv.keep (by omega) (fun _ _ _ _ _ => rfl)) b3 (by omega) (by omega) c6 (by omega) (by omega) (fun o1 nx1 vU1 e1 e2 e3 e4 => ?_)
          have hcell1 := e2.cell
          have hpar1 := e2.par
          have hlev1 := e2.lev
          simp (disch := omega) only [go_sem, ↓IntWalk.iteOmega, IntWalk.toNatUp, Nat.reduceEqDiff, Nat.reduceAdd, Nat.reduceMul, Nat.reduceSub, Nat.reduceLT, Nat.reduceLeDiff, Int.reduceToNat, Int.reduceLT, Int.reduceLE, Int.reduceEq, Int.reduceAdd, Int.reduceSub, Int.reduceMul, Int.toNat_natCast, reduceCtorEq, decide_true, decide_false, IntWalk.i64_in, IntWalk.u64_in, IntWalk.u8_in, nzP, a0, a2, a5, a6, a7, hcell1, hpar1, hlev1, crP_top]
          refine top_call (e2.keep (by omega) rfl rfl rfl) ?_
          have hne : U ++ [manyN 4 J] ≠ [] := by simp
          have hUl : (U ++ [manyN 4 J]).length ≤ 1000 := by rw [List.length_append, List.length_singleton]; omega
          have hv := e3.viewU hne
          have ht := e3.tagsU
          have hX := XPz_many 5 (U ++ [manyN 4 J]) hne hUl
          generalize U ++ [manyN 4 J] = W at *
          have hn : ∀ i k, k ≠ 14 → nin (i, k) (viewTags o1 1012 vU1) = true := fun i k e1 => nin_of (fun hm => e1 (ht _ hm).1)
          simp (disch := omega) only [go_sem, ↓IntWalk.iteOmega, IntWalk.toNatUp, Nat.reduceEqDiff, Nat.reduceAdd, Nat.reduceMul, Nat.reduceSub, Nat.reduceLT, Nat.reduceLeDiff, Int.reduceToNat, Int.reduceLT, Int.reduceLE, Int.reduceEq, Int.reduceAdd, Int.reduceSub, Int.reduceMul, Int.toNat_natCast, reduceCtorEq, decide_true, decide_false, IntWalk.i64_in, IntWalk.u64_in, IntWalk.u8_in, nzP, a0, a2, a5, a6, a7, hcell1, hpar1, hlev1, d0, d1, h6, hv, hX, hn, crP_clo]
          rw [hB] at hR bel
          simp only [List.headD_cons, List.tail_cons] at hR
          cases bel with
          | cons b' _ D' pre' vU' vJ' _ _ _ g1 g2 g3 g4 g5 g6 g7 =>
          have hsl : ∀ i k, (b ≤ i → k ≠ 14) → sealed (viewTags o1 1012 vU1) o1 (i, k) = o1 (i, k) := fun i k hk => sealed_out (fun hm => by
            obtain ⟨e1, e2, _⟩ := ht _ hm
            exact hk e2 e1)
          have hk5 : ∀ (y1 y2 y3 : AObj) i k, i < nx → (i, k) ≠ (2, 21) → (i, k) ≠ (2, 23) → (b ≤ i → k ≠ 11 ∧ k ≠ 14 ∧ k ≠ 19) → upd (upd (upd (sealed (viewTags o1 1012 vU1) o1) (nx1, 14) y1) (nx1, 14) y2) (2, 23) y3 (i, k) = o (i, k) := fun y1 y2 y3 i k hi n1 n2 n3 => by
            have e5 : ¬ i = nx1 := by omega
            rw [upd_off n2]
            simp only [upd_app, e5, if_false, ite_self]
            rw [hsl i k (fun q => (n3 q).2.1)]
            exact e4 i k (by omega) n1 n2 n3
          have hlen' : pre'.length = B'.length * 2 := g1.length
          refine clo_call (s := s) (at_ := at_) (g := g) (d := B'.length) (pre := pre') (vU := vU') (vJ := vJ') (post := vU1 :: .nil :: post) (b := b') (U := U') (J := J') (.data D' (manyN 5 W)) ⟨by omega, ?_, ?_, ?_, hlen', by omega⟩ (g4.keep (by omega) (fun i k w1 w2 w3 => hk5 _ _ _ i k (by omega) (by intro e; cases e; omega) (by intro e; cases e; omega) (by intro; omega))) g2 (by omega) (by omega) (fun o6 nx6 vJ6 f1 f2 f3 f4 => ?_)
          · rw [upd_off (by decide)]
            have e5 : ¬ 2 = nx1 := by omega
            simp only [upd_app, e5, if_false, ite_self]
            rw [hsl 2 5 (by intro; decide)]
            exact hcell1
          · rw [upd_same, hBl]
            rfl
          · rw [upd_off (by decide)]
            have e5 : ¬ 2 = nx1 := by omega
            simp only [upd_app, e5, if_false, ite_self]
            rw [hsl 2 21 (by intro; decide), hlev1]
            simp
          have hcell6 := f2.cell
          have hpar6 := f2.par
          simp (disch := omega) only [go_sem, ↓IntWalk.iteOmega, IntWalk.toNatUp, Nat.reduceEqDiff, Nat.reduceAdd, Nat.reduceMul, Nat.reduceSub, Nat.reduceLT, Nat.reduceLeDiff, Int.reduceToNat, Int.reduceLT, Int.reduceLE, Int.reduceEq, Int.reduceAdd, Int.reduceSub, Int.reduceMul, Int.toNat_natCast, reduceCtorEq, decide_true, decide_false, IntWalk.i64_in, IntWalk.u64_in, IntWalk.u8_in, nzP, a0, a2, a5, a6, a7, hcell6, hpar6]
          exact q1 _ _ _ (f + 2) (by omega) ⟨_, _, _, _, _, _, _, _, _, _, _, PS.next (o := o) (nx := nx) (by unfold AOk; simp (disch := omega) only [go_sem, ↓IntWalk.iteOmega, IntWalk.toNatUp, Nat.reduceEqDiff, Nat.reduceAdd, Nat.reduceMul, Nat.reduceSub, Nat.reduceLT, Nat.reduceLeDiff, Int.reduceToNat, Int.reduceLT, Int.reduceLE, Int.reduceEq, Int.reduceAdd, Int.reduceSub, Int.reduceMul, Int.toNat_natCast, reduceCtorEq, decide_true, decide_false, IntWalk.i64_in, IntWalk.u64_in, IntWalk.u8_in, a0, a2, a5, a6, a7]) o2 f2 g1 g2 (by omega) (fun i k hi b1 b2 b3 => (f4 i k (by omega) b1 b2 b3).trans (hk5 _ _ _ i k hi b1 b2 (fun q => b3 (by omega)))) (by omega) (by omega) f3 (N := at_.toNat) (by omega) (by omega) (by omega) (by rw [List.length_append, List.length_singleton]; omega) (by omega) (by omega), .inl ⟨rfl, f, rfl, by omega, by omega, hR⟩⟩
      · rw [if_neg (fun e => c10 e.1)] at hR
        simp (disch := omega) only [go_sem, ↓IntWalk.iteOmega, IntWalk.toNatUp, Nat.reduceEqDiff, Nat.reduceAdd, Nat.reduceMul, Nat.reduceSub, Nat.reduceLT, Nat.reduceLeDiff, Int.reduceToNat, Int.reduceLT, Int.reduceLE, Int.reduceEq, Int.reduceAdd, Int.reduceSub, Int.reduceMul, Int.toNat_natCast, reduceCtorEq, decide_true, decide_false, IntWalk.i64_in, IntWalk.u64_in, IntWalk.u8_in, nzP, a0, a2, a5, a6, a7, o2, hcell, hpar, hlev, c1, hc, hpl, hk1, c2, c3, c4, crP_top]
        refine top_call (stk.keep (by omega) rfl rfl rfl) ?_
        simp (disch := omega) only [go_sem, ↓IntWalk.iteOmega, IntWalk.toNatUp, Nat.reduceEqDiff, Nat.reduceAdd, Nat.reduceMul, Nat.reduceSub, Nat.reduceLT, Nat.reduceLeDiff, Int.reduceToNat, Int.reduceLT, Int.reduceLE, Int.reduceEq, Int.reduceAdd, Int.reduceSub, Int.reduceMul, Int.toNat_natCast, reduceCtorEq, decide_true, decide_false, IntWalk.i64_in, IntWalk.u64_in, IntWalk.u8_in, nzP, a0, a2, a5, a6, a7, o2, hcell, hpar, hlev, d0, d1, h6, hJl, haf, c8, c9, c10, crP_top]
        exact q2 _ _ _ 0 (by omega) ⟨_, _, _, _, _, _, _, _, _, _, _, hps.same (by unfold AOk; simp (disch := omega) only [go_sem, ↓IntWalk.iteOmega, IntWalk.toNatUp, Nat.reduceEqDiff, Nat.reduceAdd, Nat.reduceMul, Nat.reduceSub, Nat.reduceLT, Nat.reduceLeDiff, Int.reduceToNat, Int.reduceLT, Int.reduceLE, Int.reduceEq, Int.reduceAdd, Int.reduceSub, Int.reduceMul, Int.toNat_natCast, reduceCtorEq, decide_true, decide_false, IntWalk.i64_in, IntWalk.u64_in, IntWalk.u8_in, a0, a2, a5, a6, a7]) (by omega), .inr (.inr ⟨rfl, rfl, hR⟩)⟩
    · rw [if_pos c8, hlast] at hR
      simp (disch := omega) only [go_sem, ↓IntWalk.iteOmega, IntWalk.toNatUp, Nat.reduceEqDiff, Nat.reduceAdd, Nat.reduceMul, Nat.reduceSub, Nat.reduceLT, Nat.reduceLeDiff, Int.reduceToNat, Int.reduceLT, Int.reduceLE, Int.reduceEq, Int.reduceAdd, Int.reduceSub, Int.reduceMul, Int.toNat_natCast, reduceCtorEq, decide_true, decide_false, IntWalk.i64_in, IntWalk.u64_in, IntWalk.u8_in, nzP, a0, a2, a5, a6, a7, o2, hcell, hpar, hlev, c1, hc, hpl, hk1, c2, c3, c4, crP_top]
      refine top_call (stk.keep (by omega) rfl rfl rfl) ?_
      simp (disch := omega) only [go_sem, ↓IntWalk.iteOmega, IntWalk.toNatUp, Nat.reduceEqDiff, Nat.reduceAdd, Nat.reduceMul, Nat.reduceSub, Nat.reduceLT, Nat.reduceLeDiff, Int.reduceToNat, Int.reduceLT, Int.reduceLE, Int.reduceEq, Int.reduceAdd, Int.reduceSub, Int.reduceMul, Int.toNat_natCast, reduceCtorEq, decide_true, decide_false, IntWalk.i64_in, IntWalk.u64_in, IntWalk.u8_in, nzP, a0, a2, a5, a6, a7, o2, hcell, hpar, hlev, d0, d1, h6, hJl, haf, c7, c8, crP_beh]
      refine beh_call (afterN c.toNat) 0 0 x (stk.keep (by omega) rfl rfl rfl) (lv2.keep (by omega) (fun _ _ _ _ _ => rfl)) b3 (by omega) (by omega) (fun o' nx' vJ' e1 e2 e3 e4 => ?_)
      have hcell' := e2.cell
      have hpar' := e2.par
      simp (disch := omega) only [go_sem, ↓IntWalk.iteOmega, IntWalk.toNatUp, Nat.reduceEqDiff, Nat.reduceAdd, Nat.reduceMul, Nat.reduceSub, Nat.reduceLT, Nat.reduceLeDiff, Int.reduceToNat, Int.reduceLT, Int.reduceLE, Int.reduceEq, Int.reduceAdd, Int.reduceSub, Int.reduceMul, Int.toNat_natCast, reduceCtorEq, decide_true, decide_false, IntWalk.i64_in, IntWalk.u64_in, IntWalk.u8_in, nzP, a0, a2, a5, a6, a7, hcell', hpar']
      exact q1 _ _ _ (f + 2) (by omega) ⟨_, _, _, _, _, _, _, _, _, _, _, PS.next (by unfold AOk; simp (disch := omega) only [go_sem, ↓IntWalk.iteOmega, IntWalk.toNatUp, Nat.reduceEqDiff, Nat.reduceAdd, Nat.reduceMul, Nat.reduceSub, Nat.reduceLT, Nat.reduceLeDiff, Int.reduceToNat, Int.reduceLT, Int.reduceLE, Int.reduceEq, Int.reduceAdd, Int.reduceSub, Int.reduceMul, Int.toNat_natCast, reduceCtorEq, decide_true, decide_false, IntWalk.i64_in, IntWalk.u64_in, IntWalk.u8_in, a0, a2, a5, a6, a7]) o2 e2 bel b3 bn (fun i k hi => e4 i k (by omega)) (by omega) (by omega) e3 (N := at_.toNat) (by omega) (by omega) (by omega) (by rw [List.length_append, List.length_singleton]; omega) (by omega) (by omega), .inl ⟨rfl, f, rfl, by omega, by omega, hR⟩⟩
  · rw [if_pos c2] at hR
    simp (disch := omega) only [go_sem, ↓IntWalk.iteOmega, IntWalk.toNatUp, Nat.reduceEqDiff, Nat.reduceAdd, Nat.reduceMul, Nat.reduceSub, Nat.reduceLT, Nat.reduceLeDiff, Int.reduceToNat, Int.reduceLT, Int.reduceLE, Int.reduceEq, Int.reduceAdd, Int.reduceSub, Int.reduceMul, Int.toNat_natCast, reduceCtorEq, decide_true, decide_false, IntWalk.i64_in, IntWalk.u64_in, IntWalk.u8_in, nzP, a0, a2, a5, a6, a7, o2, hcell, hpar, hlev, c1, hc, hpl, hk1, c2, crP_clo]
    refine clo_call (.data D (plainN c.toNat)) (stk.keep (by omega) rfl rfl rfl) (lv.keep (by omega) (fun _ _ _ _ _ => rfl)) b3 (by omega) (by omega) (fun o' nx' vJ' e1 e2 e3 e4 => ?_)
    have hcell' := e2.cell
    have hpar' := e2.par
    simp (disch := omega) only [go_sem, ↓IntWalk.iteOmega, IntWalk.toNatUp, Nat.reduceEqDiff, Nat.reduceAdd, Nat.reduceMul, Nat.reduceSub, Nat.reduceLT, Nat.reduceLeDiff, Int.reduceToNat, Int.reduceLT, Int.reduceLE, Int.reduceEq, Int.reduceAdd, Int.reduceSub, Int.reduceMul, Int.toNat_natCast, reduceCtorEq, decide_true, decide_false, IntWalk.i64_in, IntWalk.u64_in, IntWalk.u8_in, nzP, a0, a2, a5, a6, a7, hcell', hpar']
    exact q1 _ _ _ (f + 2) (by omega) ⟨_, _, _, _, _, _, _, _, _, _, _, PS.next (by unfold AOk; simp (disch := omega) only [go_sem, ↓IntWalk.iteOmega, IntWalk.toNatUp, Nat.reduceEqDiff, Nat.reduceAdd, Nat.reduceMul, Nat.reduceSub, Nat.reduceLT, Nat.reduceLeDiff, Int.reduceToNat, Int.reduceLT, Int.reduceLE, Int.reduceEq, Int.reduceAdd, Int.reduceSub, Int.reduceMul, Int.toNat_natCast, reduceCtorEq, decide_true, decide_false, IntWalk.i64_in, IntWalk.u64_in, IntWalk.u8_in, a0, a2, a5, a6, a7]) o2 e2 bel b3 bn (fun i k hi => e4 i k (by omega)) (by omega) (by omega) e3 (N := at_.toNat) (by omega) (by omega) (by omega) (by rw [List.length_append, List.length_singleton]; omega) (by omega) (by omega), .inl ⟨rfl, f, rfl, by omega, by omega, hR⟩⟩
end Go.Proofs.YtmcbfbpdfbcakaaDoor.A
/- Expressions read: Parse's contract. -/
namespace Go.Proofs.YtmcbfbpdfbcakaaDoor.A
open Go
set_option maxRecDepth 20000
theorem lab2 {s : List UInt8} {R : Nd × Int × Int} {a : AAct} {o : Ob} {nx : Nat} {at_ U J B g b D pre vU vJ post} (h : PS s a o nx at_ U J B g b D pre vU vJ post) (hR : (zeroN, at_, 3) = R) {Q : WPost} (qr : ∀ a o nx, RetOK R a o → Q .ret a o nx) {k : Nat} :
    WP (EX md0 XPz) crP k nzP r2 a o nx Q := by
  obtain ⟨a0, a2, a5, a6, a7, o2, stk, bel, b3, bn, lv, D1, U1, J1, at0, at1⟩ := h
  have hcell := stk.cell
  have hpar := stk.par
  simp only [r2, bP, pathC, Tryd.f18, Option.getD_some]
  simp (disch := omega) only [go_sem, ↓IntWalk.iteOmega, IntWalk.toNatUp, Nat.reduceEqDiff, Nat.reduceAdd, Nat.reduceMul, Nat.reduceSub, Nat.reduceLT, Nat.reduceLeDiff, Int.reduceToNat, Int.reduceLT, Int.reduceLE, Int.reduceEq, Int.reduceAdd, Int.reduceSub, Int.reduceMul, Int.toNat_natCast, reduceCtorEq, decide_true, decide_false, IntWalk.i64_in, IntWalk.u64_in, IntWalk.u8_in, nzP, a0, a2, a5, a6, a7, o2, hcell, hpar]
  subst hR
  exact qr _ _ _ ⟨by simp (disch := omega) only [go_sem, ↓IntWalk.iteOmega, IntWalk.toNatUp, Nat.reduceEqDiff, Nat.reduceAdd, Nat.reduceMul, Nat.reduceSub, Nat.reduceLT, Nat.reduceLeDiff, Int.reduceToNat, Int.reduceLT, Int.reduceLE, Int.reduceEq, Int.reduceAdd, Int.reduceSub, Int.reduceMul, Int.toNat_natCast, reduceCtorEq, decide_true, decide_false, IntWalk.i64_in, IntWalk.u64_in, IntWalk.u8_in, a2], ⟨nd0, by simp (disch := omega) only [go_sem, ↓IntWalk.iteOmega, IntWalk.toNatUp, Nat.reduceEqDiff, Nat.reduceAdd, Nat.reduceMul, Nat.reduceSub, Nat.reduceLT, Nat.reduceLeDiff, Int.reduceToNat, Int.reduceLT, Int.reduceLE, Int.reduceEq, Int.reduceAdd, Int.reduceSub, Int.reduceMul, Int.toNat_natCast, reduceCtorEq, decide_true, decide_false, IntWalk.i64_in, IntWalk.u64_in, IntWalk.u8_in], rfl, zero_view⟩, by simp (disch := omega) only [go_sem, ↓IntWalk.iteOmega, IntWalk.toNatUp, Nat.reduceEqDiff, Nat.reduceAdd, Nat.reduceMul, Nat.reduceSub, Nat.reduceLT, Nat.reduceLeDiff, Int.reduceToNat, Int.reduceLT, Int.reduceLE, Int.reduceEq, Int.reduceAdd, Int.reduceSub, Int.reduceMul, Int.toNat_natCast, reduceCtorEq, decide_true, decide_false, IntWalk.i64_in, IntWalk.u64_in, IntWalk.u8_in], by simp (disch := omega) only [go_sem, ↓IntWalk.iteOmega, IntWalk.toNatUp, Nat.reduceEqDiff, Nat.reduceAdd, Nat.reduceMul, Nat.reduceSub, Nat.reduceLT, Nat.reduceLeDiff, Int.reduceToNat, Int.reduceLT, Int.reduceLE, Int.reduceEq, Int.reduceAdd, Int.reduceSub, Int.reduceMul, Int.toNat_natCast, reduceCtorEq, decide_true, decide_false, IntWalk.i64_in, IntWalk.u64_in, IntWalk.u8_in]⟩
theorem lab0 {s : List UInt8} {R : Nd × Int × Int} {a : AAct} {o : Ob} {nx : Nat} {at_ U J B g b D pre vU vJ post} (h : PS s a o nx at_ U J B g b D pre vU vJ post) (hR : (if B ≠ [] ∨ J = [] then (zeroN, at_, 3) else (manyN 5 (U ++ [manyN 4 J]), 0, 0)) = R) {Q : WPost}
    (q2 : ∀ a o nx, PI s R 2 0 a o nx → Q (.goto 2) a o nx) (qr : ∀ a o nx, RetOK R a o → Q .ret a o nx) {k : Nat} :
    WP (EX md0 XPz) crP k nzP r0 a o nx Q := by
  have hps := h
  obtain ⟨a0, a2, a5, a6, a7, o2, stk, bel, b3, bn, lv, D1, U1, J1, at0, at1⟩ := h
  have hcell := stk.cell
  have hpar := stk.par
  have hlev := stk.lev
  have hpre := stk.len
  have hle := stk.le
  have d0 : ∀ x y : AV, (pre ++ x :: y :: post).drop (B.length * 2) = x :: y :: post := fun x y => drop_p0 hpre
  have d1 : ∀ x y : AV, (pre ++ x :: y :: post).drop (B.length * 2 + 1) = y :: post := fun x y => drop_p1 hpre
  have h6 : ∀ x y : AV, (pre ++ x :: y :: post).length = B.length * 2 + (post.length + 2) := fun x y => by rw [List.length_append, hpre]; rfl
  simp only [r0, bP, pathC, Tryd.f18, Option.getD_some]
  by_cases c1 : B = []
  · have hBl : B.length = 0 := by rw [c1]; rfl
    by_cases c2 : J = []
    · rw [if_pos (.inr c2)] at hR
      have hvJ : vJ = .nil ∨ ∃ i gj, vJ = .ref (i, 11) gj 0 0 := by
        rcases lv.j with ⟨e, _⟩ | ⟨i, gj, cs, _, _, e, _, _⟩
        · exact .inl e
        · exact .inr ⟨i, gj, by rw [e, c2]; rfl⟩
      simp (disch := omega) only [go_sem, ↓IntWalk.iteOmega, IntWalk.toNatUp, Nat.reduceEqDiff, Nat.reduceAdd, Nat.reduceMul, Nat.reduceSub, Nat.reduceLT, Nat.reduceLeDiff, Int.reduceToNat, Int.reduceLT, Int.reduceLE, Int.reduceEq, Int.reduceAdd, Int.reduceSub, Int.reduceMul, Int.toNat_natCast, reduceCtorEq, decide_true, decide_false, IntWalk.i64_in, IntWalk.u64_in, IntWalk.u8_in, nzP, a0, a2, a5, a6, a7, o2, hcell, hpar, hlev, crP_top]
      refine top_call (stk.keep (by omega) rfl rfl rfl) ?_
      rcases hvJ with rfl | ⟨i, gj, rfl⟩
      · simp (disch := omega) only [go_sem, ↓IntWalk.iteOmega, IntWalk.toNatUp, Nat.reduceEqDiff, Nat.reduceAdd, Nat.reduceMul, Nat.reduceSub, Nat.reduceLT, Nat.reduceLeDiff, Int.reduceToNat, Int.reduceLT, Int.reduceLE, Int.reduceEq, Int.reduceAdd, Int.reduceSub, Int.reduceMul, Int.toNat_natCast, reduceCtorEq, decide_true, decide_false, IntWalk.i64_in, IntWalk.u64_in, IntWalk.u8_in, nzP, a0, a2, a5, a6, a7, o2, hcell, hpar, hlev, d0, d1, h6]
        exact q2 _ _ _ ⟨_, _, _, _, _, _, _, _, _, _, _, hps.same (by unfold AOk; simp (disch := omega) only [go_sem, ↓IntWalk.iteOmega, IntWalk.toNatUp, Nat.reduceEqDiff, Nat.reduceAdd, Nat.reduceMul, Nat.reduceSub, Nat.reduceLT, Nat.reduceLeDiff, Int.reduceToNat, Int.reduceLT, Int.reduceLE, Int.reduceEq, Int.reduceAdd, Int.reduceSub, Int.reduceMul, Int.toNat_natCast, reduceCtorEq, decide_true, decide_false, IntWalk.i64_in, IntWalk.u64_in, IntWalk.u8_in, a0, a2, a5, a6, a7]) (by omega), .inr (.inr ⟨rfl, rfl, hR⟩)⟩
      · simp (disch := omega) only [go_sem, ↓IntWalk.iteOmega, IntWalk.toNatUp, Nat.reduceEqDiff, Nat.reduceAdd, Nat.reduceMul, Nat.reduceSub, Nat.reduceLT, Nat.reduceLeDiff, Int.reduceToNat, Int.reduceLT, Int.reduceLE, Int.reduceEq, Int.reduceAdd, Int.reduceSub, Int.reduceMul, Int.toNat_natCast, reduceCtorEq, decide_true, decide_false, IntWalk.i64_in, IntWalk.u64_in, IntWalk.u8_in, nzP, a0, a2, a5, a6, a7, o2, hcell, hpar, hlev, d0, d1, h6]
        exact q2 _ _ _ ⟨_, _, _, _, _, _, _, _, _, _, _, hps.same (by unfold AOk; simp (disch := omega) only [go_sem, ↓IntWalk.iteOmega, IntWalk.toNatUp, Nat.reduceEqDiff, Nat.reduceAdd, Nat.reduceMul, Nat.reduceSub, Nat.reduceLT, Nat.reduceLeDiff, Int.reduceToNat, Int.reduceLT, Int.reduceLE, Int.reduceEq, Int.reduceAdd, Int.reduceSub, Int.reduceMul, Int.toNat_natCast, reduceCtorEq, decide_true, decide_false, IntWalk.i64_in, IntWalk.u64_in, IntWalk.u8_in, a0, a2, a5, a6, a7]) (by omega), .inr (.inr ⟨rfl, rfl, hR⟩)⟩
    · rw [if_neg (by simp [c1, c2])] at hR
      have hJl : ¬ J.length = 0 := fun e => c2 (List.length_eq_zero_iff.1 e)
      obtain ⟨i, gj, rfl⟩ : ∃ i gj, vJ = .ref (i, 11) gj 0 J.length := by
        rcases lv.j with ⟨_, e⟩ | ⟨i, gj, cs, _, _, e, _, _⟩
        · exact absurd e c2
        · exact ⟨i, gj, e⟩
      simp (disch := omega) only [go_sem, ↓IntWalk.iteOmega, IntWalk.toNatUp, Nat.reduceEqDiff, Nat.reduceAdd, Nat.reduceMul, Nat.reduceSub, Nat.reduceLT, Nat.reduceLeDiff, Int.reduceToNat, Int.reduceLT, Int.reduceLE, Int.reduceEq, Int.reduceAdd, Int.reduceSub, Int.reduceMul, Int.toNat_natCast, reduceCtorEq, decide_true, decide_false, IntWalk.i64_in, IntWalk.u64_in, IntWalk.u8_in, nzP, a0, a2, a5, a6, a7, o2, hcell, hpar, hlev, crP_top]
      refine top_call (stk.keep (by omega) rfl rfl rfl) ?_
      simp (disch := omega) only [go_sem, ↓IntWalk.iteOmega, IntWalk.toNatUp, Nat.reduceEqDiff, Nat.reduceAdd, Nat.reduceMul, Nat.reduceSub, Nat.reduceLT, Nat.reduceLeDiff, Int.reduceToNat, Int.reduceLT, Int.reduceLE, Int.reduceEq, Int.reduceAdd, Int.reduceSub, Int.reduceMul, Int.toNat_natCast, reduceCtorEq, decide_true, decide_false, IntWalk.i64_in, IntWalk.u64_in, IntWalk.u8_in, nzP, a0, a2, a5, a6, a7, o2, hcell, hpar, hlev, d0, d1, h6, hJl, crP_top]
      refine top_call (stk.keep (by omega) rfl rfl rfl) ?_
      simp (disch := omega) only [go_sem, ↓IntWalk.iteOmega, IntWalk.toNatUp, Nat.reduceEqDiff, Nat.reduceAdd, Nat.reduceMul, Nat.reduceSub, Nat.reduceLT, Nat.reduceLeDiff, Int.reduceToNat, Int.reduceLT, Int.reduceLE, Int.reduceEq, Int.reduceAdd, Int.reduceSub, Int.reduceMul, Int.toNat_natCast, reduceCtorEq, decide_true, decide_false, IntWalk.i64_in, IntWalk.u64_in, IntWalk.u8_in, nzP, a0, a2, a5, a6, a7, o2, hcell, hpar, hlev, d0, d1, h6, hJl, crP_or]
      refine or_call (stk.keep (by omega) rfl rfl rfl) (lv.keep (by omega) (fun _ _ _ _ _ => rfl)) b3 (by omega) (by omega) c2 (by omega) (by omega) (fun o1 nx1 vU1 e1 e2 e3 e4 => ?_)
      have hcell1 := e2.cell
      have hpar1 := e2.par
      have hlev1 := e2.lev
      have o21 := (e4.o2 b3 (by omega)).trans o2
      simp (disch := omega) only [go_sem, ↓IntWalk.iteOmega, IntWalk.toNatUp, Nat.reduceEqDiff, Nat.reduceAdd, Nat.reduceMul, Nat.reduceSub, Nat.reduceLT, Nat.reduceLeDiff, Int.reduceToNat, Int.reduceLT, Int.reduceLE, Int.reduceEq, Int.reduceAdd, Int.reduceSub, Int.reduceMul, Int.toNat_natCast, reduceCtorEq, decide_true, decide_false, IntWalk.i64_in, IntWalk.u64_in, IntWalk.u8_in, nzP, a0, a2, a5, a6, a7, hcell1, hpar1, hlev1, crP_top]
      refine top_call (e2.keep (by omega) rfl rfl rfl) ?_
      have hne : U ++ [manyN 4 J] ≠ [] := by simp
      have hUl : (U ++ [manyN 4 J]).length ≤ 1000 := by rw [List.length_append, List.length_singleton]; omega
      have hv := e3.viewU hne
      have ht := e3.tagsU
      have hX := XPz_many 5 (U ++ [manyN 4 J]) hne hUl
      generalize U ++ [manyN 4 J] = W at *
      have hn : ∀ i k, k ≠ 14 → nin (i, k) (viewTags o1 1012 vU1) = true := fun i k e1 => nin_of (fun hm => e1 (ht _ hm).1)
      simp (disch := omega) only [go_sem, ↓IntWalk.iteOmega, IntWalk.toNatUp, Nat.reduceEqDiff, Nat.reduceAdd, Nat.reduceMul, Nat.reduceSub, Nat.reduceLT, Nat.reduceLeDiff, Int.reduceToNat, Int.reduceLT, Int.reduceLE, Int.reduceEq, Int.reduceAdd, Int.reduceSub, Int.reduceMul, Int.toNat_natCast, reduceCtorEq, decide_true, decide_false, IntWalk.i64_in, IntWalk.u64_in, IntWalk.u8_in, nzP, a0, a2, a5, a6, a7, hcell1, hpar1, hlev1, o21, d0, d1, h6, hv, hX, hn]
      subst hR
      exact qr _ _ _ ⟨by simp (disch := omega) only [go_sem, ↓IntWalk.iteOmega, IntWalk.toNatUp, Nat.reduceEqDiff, Nat.reduceAdd, Nat.reduceMul, Nat.reduceSub, Nat.reduceLT, Nat.reduceLeDiff, Int.reduceToNat, Int.reduceLT, Int.reduceLE, Int.reduceEq, Int.reduceAdd, Int.reduceSub, Int.reduceMul, Int.toNat_natCast, reduceCtorEq, decide_true, decide_false, IntWalk.i64_in, IntWalk.u64_in, IntWalk.u8_in, a2], ⟨cNd (manyN 5 W), by simp (disch := omega) only [go_sem, ↓IntWalk.iteOmega, IntWalk.toNatUp, Nat.reduceEqDiff, Nat.reduceAdd, Nat.reduceMul, Nat.reduceSub, Nat.reduceLT, Nat.reduceLeDiff, Int.reduceToNat, Int.reduceLT, Int.reduceLE, Int.reduceEq, Int.reduceAdd, Int.reduceSub, Int.reduceMul, Int.toNat_natCast, reduceCtorEq, decide_true, decide_false, IntWalk.i64_in, IntWalk.u64_in, IntWalk.u8_in], cNd_length _, fun o' e => view_cNd o' e _⟩, by simp (disch := omega) only [go_sem, ↓IntWalk.iteOmega, IntWalk.toNatUp, Nat.reduceEqDiff, Nat.reduceAdd, Nat.reduceMul, Nat.reduceSub, Nat.reduceLT, Nat.reduceLeDiff, Int.reduceToNat, Int.reduceLT, Int.reduceLE, Int.reduceEq, Int.reduceAdd, Int.reduceSub, Int.reduceMul, Int.toNat_natCast, reduceCtorEq, decide_true, decide_false, IntWalk.i64_in, IntWalk.u64_in, IntWalk.u8_in], by simp (disch := omega) only [go_sem, ↓IntWalk.iteOmega, IntWalk.toNatUp, Nat.reduceEqDiff, Nat.reduceAdd, Nat.reduceMul, Nat.reduceSub, Nat.reduceLT, Nat.reduceLeDiff, Int.reduceToNat, Int.reduceLT, Int.reduceLE, Int.reduceEq, Int.reduceAdd, Int.reduceSub, Int.reduceMul, Int.toNat_natCast, reduceCtorEq, decide_true, decide_false, IntWalk.i64_in, IntWalk.u64_in, IntWalk.u8_in]⟩
  · rw [if_pos (.inl c1)] at hR
    have hBl : ¬ B.length = 0 := fun e => c1 (List.length_eq_zero_iff.1 e)
    simp (disch := omega) only [go_sem, ↓IntWalk.iteOmega, IntWalk.toNatUp, Nat.reduceEqDiff, Nat.reduceAdd, Nat.reduceMul, Nat.reduceSub, Nat.reduceLT, Nat.reduceLeDiff, Int.reduceToNat, Int.reduceLT, Int.reduceLE, Int.reduceEq, Int.reduceAdd, Int.reduceSub, Int.reduceMul, Int.toNat_natCast, reduceCtorEq, decide_true, decide_false, IntWalk.i64_in, IntWalk.u64_in, IntWalk.u8_in, nzP, a0, a2, a5, a6, a7, o2, hcell, hpar, hlev, crP_top]
    exact q2 _ _ _ ⟨_, _, _, _, _, _, _, _, _, _, _, hps.same (by unfold AOk; simp (disch := omega) only [go_sem, ↓IntWalk.iteOmega, IntWalk.toNatUp, Nat.reduceEqDiff, Nat.reduceAdd, Nat.reduceMul, Nat.reduceSub, Nat.reduceLT, Nat.reduceLeDiff, Int.reduceToNat, Int.reduceLT, Int.reduceLE, Int.reduceEq, Int.reduceAdd, Int.reduceSub, Int.reduceMul, Int.toNat_natCast, reduceCtorEq, decide_true, decide_false, IntWalk.i64_in, IntWalk.u64_in, IntWalk.u8_in, a0, a2, a5, a6, a7]) (by omega), .inr (.inr ⟨rfl, rfl, hR⟩)⟩
theorem parse_step {s : List UInt8} {R : Nd × Int × Int} (hs : s.length ≤ 200) {l m : Nat} {a : AAct} {o : Ob} {nx : Nat} {rest : Code} (hf : findLabel xP l = some rest) (hI : PI s R l m a o nx) {k : Nat} {Q : WPost} (qr : ∀ a o nx, RetOK R a o → Q .ret a o nx) : WP (EX md0 XPz) crP k nzP rest a o nx (scopeQ xP (PI s R) m Q) := by
  obtain ⟨at_, U, J, B, g, b, D, pre, vU, vJ, post, hps, hc⟩ := hI
  rcases hc with ⟨rfl, f, rfl, hf1, hf2, hR⟩ | ⟨rfl, rfl, hR⟩ | ⟨rfl, rfl, hR⟩
  · rw [fl1] at hf
    injection hf with hf
    subst hf
    have := lab1 hs hps hf1 hf2 hR (Q := scopeQ xP (PI s R) (f + 2) Q) (k := k) (fun a o nx m' h1 h2 => by rw [scopeQ_goto fl1]; exact ⟨m', h1, h2⟩) (fun a o nx m' h1 h2 => by rw [scopeQ_goto fl0]; exact ⟨m', h1, h2⟩) (fun a o nx m' h1 h2 => by rw [scopeQ_goto fl2]; exact ⟨m', h1, h2⟩) (fun a o nx h => qr a o nx h)
    simp (disch := omega) only [go_sem, ↓IntWalk.iteOmega, IntWalk.toNatUp, Nat.reduceEqDiff, Nat.reduceAdd, Nat.reduceMul, Nat.reduceSub, Nat.reduceLT, Nat.reduceLeDiff, Int.reduceToNat, Int.reduceLT, Int.reduceLE, Int.reduceEq, Int.reduceAdd, Int.reduceSub, Int.reduceMul, Int.toNat_natCast, reduceCtorEq, decide_true, decide_false, IntWalk.i64_in, IntWalk.u64_in, IntWalk.u8_in]
    exact this
  · rw [fl0] at hf
    injection hf with hf
    subst hf
    have := lab0 hps hR (Q := scopeQ xP (PI s R) 1 Q) (k := k) (fun a o nx h2 => by rw [scopeQ_goto fl2]; exact ⟨0, by omega, h2⟩) (fun a o nx h => qr a o nx h)
    simp (disch := omega) only [go_sem, ↓IntWalk.iteOmega, IntWalk.toNatUp, Nat.reduceEqDiff, Nat.reduceAdd, Nat.reduceMul, Nat.reduceSub, Nat.reduceLT, Nat.reduceLeDiff, Int.reduceToNat, Int.reduceLT, Int.reduceLE, Int.reduceEq, Int.reduceAdd, Int.reduceSub, Int.reduceMul, Int.toNat_natCast, reduceCtorEq, decide_true, decide_false, IntWalk.i64_in, IntWalk.u64_in, IntWalk.u8_in]
    exact this
  · rw [fl2] at hf
    injection hf with hf
    subst hf
    have := lab2 hps hR (Q := scopeQ xP (PI s R) 0 Q) (k := k) (fun a o nx h => qr a o nx h)
    simp (disch := omega) only [go_sem, ↓IntWalk.iteOmega, IntWalk.toNatUp, Nat.reduceEqDiff, Nat.reduceAdd, Nat.reduceMul, Nat.reduceSub, Nat.reduceLT, Nat.reduceLeDiff, Int.reduceToNat, Int.reduceLT, Int.reduceLE, Int.reduceEq, Int.reduceAdd, Int.reduceSub, Int.reduceMul, Int.toNat_natCast, reduceCtorEq, decide_true, decide_false, IntWalk.i64_in, IntWalk.u64_in, IntWalk.u8_in]
    exact this
noncomputable def x1 : Code := pathC [1, 0, 0] bP
noncomputable def x3 : Code := pathC [1, 0, 1, 0] bP
noncomputable def x4 : Code := pathC [1, 0, 1, 1, 0] bP
noncomputable def x5 : Code := pathC [1, 0, 1, 1, 1, 0] bP
noncomputable def x0 : Code := pathC [0] bP
theorem xP_seq : xP = .seq x1 (.seq x3 (.seq x4 (.seq x5 (.seq (.label 1) r1)))) := by kernel_rfl
theorem bP_seq : bP = .seq x0 (.scope xP) := by kernel_rfl
theorem parse_large {s : List UInt8} (hs : 200 < s.length) {a : AAct} {o : Ob} {nx : Nat} (a0 : a 0 = .str s) (a2 : a 2 = .ptr (0, 2) (0, 2) 0) (o2 : o (0, 2) = some (.row ⟨29, 1, (0, 2), false, true, nd0⟩)) {Q : WPost} (qr : ∀ a o nx, RetOK (zeroN, 0, 4) a o → Q .ret a o nx) {k : Nat} :
    WP (EX md0 XPz) crP k nzP xP a o nx Q := by
  rw [xP_seq]
  simp only [x1, bP, pathC, Tryd.f18, Option.getD_some]
  simp (disch := omega) only [go_sem, ↓IntWalk.iteOmega, IntWalk.toNatUp, Nat.reduceEqDiff, Nat.reduceAdd, Nat.reduceMul, Nat.reduceSub, Nat.reduceLT, Nat.reduceLeDiff, Int.reduceToNat, Int.reduceLT, Int.reduceLE, Int.reduceEq, Int.reduceAdd, Int.reduceSub, Int.reduceMul, Int.toNat_natCast, reduceCtorEq, decide_true, decide_false, IntWalk.i64_in, IntWalk.u64_in, IntWalk.u8_in, nzP, a0, a2, o2]
  exact qr _ _ _ ⟨by simp (disch := omega) only [go_sem, ↓IntWalk.iteOmega, IntWalk.toNatUp, Nat.reduceEqDiff, Nat.reduceAdd, Nat.reduceMul, Nat.reduceSub, Nat.reduceLT, Nat.reduceLeDiff, Int.reduceToNat, Int.reduceLT, Int.reduceLE, Int.reduceEq, Int.reduceAdd, Int.reduceSub, Int.reduceMul, Int.toNat_natCast, reduceCtorEq, decide_true, decide_false, IntWalk.i64_in, IntWalk.u64_in, IntWalk.u8_in, a2], ⟨nd0, by simp (disch := omega) only [go_sem, ↓IntWalk.iteOmega, IntWalk.toNatUp, Nat.reduceEqDiff, Nat.reduceAdd, Nat.reduceMul, Nat.reduceSub, Nat.reduceLT, Nat.reduceLeDiff, Int.reduceToNat, Int.reduceLT, Int.reduceLE, Int.reduceEq, Int.reduceAdd, Int.reduceSub, Int.reduceMul, Int.toNat_natCast, reduceCtorEq, decide_true, decide_false, IntWalk.i64_in, IntWalk.u64_in, IntWalk.u8_in], rfl, zero_view⟩, by simp (disch := omega) only [go_sem, ↓IntWalk.iteOmega, IntWalk.toNatUp, Nat.reduceEqDiff, Nat.reduceAdd, Nat.reduceMul, Nat.reduceSub, Nat.reduceLT, Nat.reduceLeDiff, Int.reduceToNat, Int.reduceLT, Int.reduceLE, Int.reduceEq, Int.reduceAdd, Int.reduceSub, Int.reduceMul, Int.toNat_natCast, reduceCtorEq, decide_true, decide_false, IntWalk.i64_in, IntWalk.u64_in, IntWalk.u8_in], by simp (disch := omega) only [go_sem, ↓IntWalk.iteOmega, IntWalk.toNatUp, Nat.reduceEqDiff, Nat.reduceAdd, Nat.reduceMul, Nat.reduceSub, Nat.reduceLT, Nat.reduceLeDiff, Int.reduceToNat, Int.reduceLT, Int.reduceLE, Int.reduceEq, Int.reduceAdd, Int.reduceSub, Int.reduceMul, Int.toNat_natCast, reduceCtorEq, decide_true, decide_false, IntWalk.i64_in, IntWalk.u64_in, IntWalk.u8_in]⟩
theorem parse_start {s : List UInt8} (hs : s.length ≤ 200) {a : AAct} {o : Ob} (a0 : a 0 = .str s) (a2 : a 2 = .ptr (0, 2) (0, 2) 0) (o2 : o (0, 2) = some (.row ⟨29, 1, (0, 2), false, true, nd0⟩)) {Q : WPost} {k : Nat}
    (hq : ∀ a o nx, PS s a o nx 0 [] [] [] (2, 21) 3 0 [] .nil .nil [] → WP (EX md0 XPz) crP k nzP r1 a o nx Q) :
    WP (EX md0 XPz) crP k nzP xP a o 1 Q := by
  rw [xP_seq]
  simp only [x1, x3, x4, x5, bP, pathC, Tryd.f18, Option.getD_some]
  simp (disch := omega) only [go_sem, ↓IntWalk.iteOmega, IntWalk.toNatUp, Nat.reduceEqDiff, Nat.reduceAdd, Nat.reduceMul, Nat.reduceSub, Nat.reduceLT, Nat.reduceLeDiff, Int.reduceToNat, Int.reduceLT, Int.reduceLE, Int.reduceEq, Int.reduceAdd, Int.reduceSub, Int.reduceMul, Int.toNat_natCast, reduceCtorEq, decide_true, decide_false, IntWalk.i64_in, IntWalk.u64_in, IntWalk.u8_in, nzP, a0, a2, o2]
  exact hq _ _ _ ⟨by simp (disch := omega) only [go_sem, ↓IntWalk.iteOmega, IntWalk.toNatUp, Nat.reduceEqDiff, Nat.reduceAdd, Nat.reduceMul, Nat.reduceSub, Nat.reduceLT, Nat.reduceLeDiff, Int.reduceToNat, Int.reduceLT, Int.reduceLE, Int.reduceEq, Int.reduceAdd, Int.reduceSub, Int.reduceMul, Int.toNat_natCast, reduceCtorEq, decide_true, decide_false, IntWalk.i64_in, IntWalk.u64_in, IntWalk.u8_in, a0], by simp (disch := omega) only [go_sem, ↓IntWalk.iteOmega, IntWalk.toNatUp, Nat.reduceEqDiff, Nat.reduceAdd, Nat.reduceMul, Nat.reduceSub, Nat.reduceLT, Nat.reduceLeDiff, Int.reduceToNat, Int.reduceLT, Int.reduceLE, Int.reduceEq, Int.reduceAdd, Int.reduceSub, Int.reduceMul, Int.toNat_natCast, reduceCtorEq, decide_true, decide_false, IntWalk.i64_in, IntWalk.u64_in, IntWalk.u8_in, a2], by simp (disch := omega) only [go_sem, ↓IntWalk.iteOmega, IntWalk.toNatUp, Nat.reduceEqDiff, Nat.reduceAdd, Nat.reduceMul, Nat.reduceSub, Nat.reduceLT, Nat.reduceLeDiff, Int.reduceToNat, Int.reduceLT, Int.reduceLE, Int.reduceEq, Int.reduceAdd, Int.reduceSub, Int.reduceMul, Int.toNat_natCast, reduceCtorEq, decide_true, decide_false, IntWalk.i64_in, IntWalk.u64_in, IntWalk.u8_in], by simp (disch := omega) only [go_sem, ↓IntWalk.iteOmega, IntWalk.toNatUp, Nat.reduceEqDiff, Nat.reduceAdd, Nat.reduceMul, Nat.reduceSub, Nat.reduceLT, Nat.reduceLeDiff, Int.reduceToNat, Int.reduceLT, Int.reduceLE, Int.reduceEq, Int.reduceAdd, Int.reduceSub, Int.reduceMul, Int.toNat_natCast, reduceCtorEq, decide_true, decide_false, IntWalk.i64_in, IntWalk.u64_in, IntWalk.u8_in], by simp (disch := omega) only [go_sem, ↓IntWalk.iteOmega, IntWalk.toNatUp, Nat.reduceEqDiff, Nat.reduceAdd, Nat.reduceMul, Nat.reduceSub, Nat.reduceLT, Nat.reduceLeDiff, Int.reduceToNat, Int.reduceLT, Int.reduceLE, Int.reduceEq, Int.reduceAdd, Int.reduceSub, Int.reduceMul, Int.toNat_natCast, reduceCtorEq, decide_true, decide_false, IntWalk.i64_in, IntWalk.u64_in, IntWalk.u8_in], by simp (disch := omega) only [go_sem, ↓IntWalk.iteOmega, IntWalk.toNatUp, Nat.reduceEqDiff, Nat.reduceAdd, Nat.reduceMul, Nat.reduceSub, Nat.reduceLT, Nat.reduceLeDiff, Int.reduceToNat, Int.reduceLT, Int.reduceLE, Int.reduceEq, Int.reduceAdd, Int.reduceSub, Int.reduceMul, Int.toNat_natCast, reduceCtorEq, decide_true, decide_false, IntWalk.i64_in, IntWalk.u64_in, IntWalk.u8_in, o2], ⟨by omega, by simp (disch := omega) only [go_sem, ↓IntWalk.iteOmega, IntWalk.toNatUp, Nat.reduceEqDiff, Nat.reduceAdd, Nat.reduceMul, Nat.reduceSub, Nat.reduceLT, Nat.reduceLeDiff, Int.reduceToNat, Int.reduceLT, Int.reduceLE, Int.reduceEq, Int.reduceAdd, Int.reduceSub, Int.reduceMul, Int.toNat_natCast, reduceCtorEq, decide_true, decide_false, IntWalk.i64_in, IntWalk.u64_in, IntWalk.u8_in], by simp (disch := omega) only [go_sem, ↓IntWalk.iteOmega, IntWalk.toNatUp, Nat.reduceEqDiff, Nat.reduceAdd, Nat.reduceMul, Nat.reduceSub, Nat.reduceLT, Nat.reduceLeDiff, Int.reduceToNat, Int.reduceLT, Int.reduceLE, Int.reduceEq, Int.reduceAdd, Int.reduceSub, Int.reduceMul, Int.toNat_natCast, reduceCtorEq, decide_true, decide_false, IntWalk.i64_in, IntWalk.u64_in, IntWalk.u8_in], by simp (disch := omega) only [go_sem, ↓IntWalk.iteOmega, IntWalk.toNatUp, Nat.reduceEqDiff, Nat.reduceAdd, Nat.reduceMul, Nat.reduceSub, Nat.reduceLT, Nat.reduceLeDiff, Int.reduceToNat, Int.reduceLT, Int.reduceLE, Int.reduceEq, Int.reduceAdd, Int.reduceSub, Int.reduceMul, Int.toNat_natCast, reduceCtorEq, decide_true, decide_false, IntWalk.i64_in, IntWalk.u64_in, IntWalk.u8_in], rfl, by show (0 : Nat) ≤ 30; omega⟩, .nil 3, by omega, by omega, ⟨.inl ⟨rfl, rfl⟩, .inl ⟨rfl, rfl⟩⟩, by omega, by simp, by simp, by omega, by omega⟩
theorem parse_ok (s : List UInt8) : Ok Tryd.prog 18 [.str s] (.tup [nodeV (parseN s).1, .int .i64 (parseN s).2.1, .int .i64 (parseN s).2.2]) := by
  refine ok_of_WP (E := EX md0 XPz) XPz_ok crP_ok mixed (k := 300) Tryd.func18 (lookP _) rfl ?_
  show WP _ _ _ _ bP _ _ _ _
  rw [bP_seq]
  simp only [x0, bP, pathC, Tryd.f18, Option.getD_some]
  simp (disch := omega) only [go_sem, ↓IntWalk.iteOmega, IntWalk.toNatUp, Nat.reduceEqDiff, Nat.reduceAdd, Nat.reduceMul, Nat.reduceSub, Nat.reduceLT, Nat.reduceLeDiff, Int.reduceToNat, Int.reduceLT, Int.reduceLE, Int.reduceEq, Int.reduceAdd, Int.reduceSub, Int.reduceMul, Int.toNat_natCast, reduceCtorEq, decide_true, decide_false, IntWalk.i64_in, IntWalk.u64_in, IntWalk.u8_in, nzP]
  have hret : ∀ (a : AAct) (o : Ob) (nx : Nat), RetOK (parseN s) a o → (Out.ret = Out.normal ∨ Out.ret = Out.ret) ∧ wO (consO (aLoad Tryd.prog 29 (a 2) { o := o, nx := nx }) (some [a 3, a 4])) fun vs => A.view o 1012 (tup1 vs) = .tup [nodeV (parseN s).1, .int .i64 (parseN s).2.1, .int .i64 (parseN s).2.2] := by
    rintro a o nx ⟨b2, ⟨cs, b3, b4, b5⟩, b6, b7⟩
    refine ⟨.inr rfl, ?_⟩
    have htk : cs.take 5 = cs := take_len b4
    have hv := b5 o 1010
    simp (disch := omega) only [go_sem, ↓IntWalk.iteOmega, IntWalk.toNatUp, Nat.reduceEqDiff, Nat.reduceAdd, Nat.reduceMul, Nat.reduceSub, Nat.reduceLT, Nat.reduceLeDiff, Int.reduceToNat, Int.reduceLT, Int.reduceLE, Int.reduceEq, Int.reduceAdd, Int.reduceSub, Int.reduceMul, Int.toNat_natCast, reduceCtorEq, decide_true, decide_false, IntWalk.i64_in, IntWalk.u64_in, IntWalk.u8_in, b2, b3, b6, b7, b4, htk, hv]
  by_cases hs : 200 < s.length
  · have hp : parseN s = (zeroN, 0, 4) := if_pos hs
    refine WP_scope (fun _ _ _ _ _ => False) 0 (by omega) ?_ (fun l m a o nx rest hf hI => hI.elim)
    exact parse_large hs (by simp (disch := omega) only [go_sem, ↓IntWalk.iteOmega, IntWalk.toNatUp, Nat.reduceEqDiff, Nat.reduceAdd, Nat.reduceMul, Nat.reduceSub, Nat.reduceLT, Nat.reduceLeDiff, Int.reduceToNat, Int.reduceLT, Int.reduceLE, Int.reduceEq, Int.reduceAdd, Int.reduceSub, Int.reduceMul, Int.toNat_natCast, reduceCtorEq, decide_true, decide_false, IntWalk.i64_in, IntWalk.u64_in, IntWalk.u8_in]) (by simp (disch := omega) only [go_sem, ↓IntWalk.iteOmega, IntWalk.toNatUp, Nat.reduceEqDiff, Nat.reduceAdd, Nat.reduceMul, Nat.reduceSub, Nat.reduceLT, Nat.reduceLeDiff, Int.reduceToNat, Int.reduceLT, Int.reduceLE, Int.reduceEq, Int.reduceAdd, Int.reduceSub, Int.reduceMul, Int.toNat_natCast, reduceCtorEq, decide_true, decide_false, IntWalk.i64_in, IntWalk.u64_in, IntWalk.u8_in]) (by simp (disch := omega) only [go_sem, ↓IntWalk.iteOmega, IntWalk.toNatUp, Nat.reduceEqDiff, Nat.reduceAdd, Nat.reduceMul, Nat.reduceSub, Nat.reduceLT, Nat.reduceLeDiff, Int.reduceToNat, Int.reduceLT, Int.reduceLE, Int.reduceEq, Int.reduceAdd, Int.reduceSub, Int.reduceMul, Int.toNat_natCast, reduceCtorEq, decide_true, decide_false, IntWalk.i64_in, IntWalk.u64_in, IntWalk.u8_in]) (fun a o nx h => hret a o nx (by rw [hp]; exact h))
  · have hs' : s.length ≤ 200 := by omega
    have hp : pGo s (s.length + 1) 0 [] [] [] = parseN s := (if_neg hs).symm
    refine WP_scope (PI s (parseN s)) (s.length + 1 + 2) (by omega) ?_ (fun l m a o nx rest hf hI => parse_step hs' hf hI hret)
    refine parse_start hs' (by simp (disch := omega) only [go_sem, ↓IntWalk.iteOmega, IntWalk.toNatUp, Nat.reduceEqDiff, Nat.reduceAdd, Nat.reduceMul, Nat.reduceSub, Nat.reduceLT, Nat.reduceLeDiff, Int.reduceToNat, Int.reduceLT, Int.reduceLE, Int.reduceEq, Int.reduceAdd, Int.reduceSub, Int.reduceMul, Int.toNat_natCast, reduceCtorEq, decide_true, decide_false, IntWalk.i64_in, IntWalk.u64_in, IntWalk.u8_in]) (by simp (disch := omega) only [go_sem, ↓IntWalk.iteOmega, IntWalk.toNatUp, Nat.reduceEqDiff, Nat.reduceAdd, Nat.reduceMul, Nat.reduceSub, Nat.reduceLT, Nat.reduceLeDiff, Int.reduceToNat, Int.reduceLT, Int.reduceLE, Int.reduceEq, Int.reduceAdd, Int.reduceSub, Int.reduceMul, Int.toNat_natCast, reduceCtorEq, decide_true, decide_false, IntWalk.i64_in, IntWalk.u64_in, IntWalk.u8_in]) (by simp (disch := omega) only [go_sem, ↓IntWalk.iteOmega, IntWalk.toNatUp, Nat.reduceEqDiff, Nat.reduceAdd, Nat.reduceMul, Nat.reduceSub, Nat.reduceLT, Nat.reduceLeDiff, Int.reduceToNat, Int.reduceLT, Int.reduceLE, Int.reduceEq, Int.reduceAdd, Int.reduceSub, Int.reduceMul, Int.toNat_natCast, reduceCtorEq, decide_true, decide_false, IntWalk.i64_in, IntWalk.u64_in, IntWalk.u8_in]) (fun a o nx h => ?_)
    exact lab1 hs' h (by omega) (by omega) hp (fun a o nx m' h1 h2 => by rw [scopeQ_goto fl1]; exact ⟨m', h1, h2⟩) (fun a o nx m' h1 h2 => by rw [scopeQ_goto fl0]; exact ⟨m', h1, h2⟩) (fun a o nx m' h1 h2 => by rw [scopeQ_goto fl2]; exact ⟨m', h1, h2⟩) hret
end Go.Proofs.YtmcbfbpdfbcakaaDoor.A
/- Long expressions: what Parse tells of them. -/
namespace Go.Proofs.YtmcbfbpdfbcakaaDoor.A
open Go
set_option maxRecDepth 20000
def RParse (args : List AV) (r : AV) : Prop := ∃ s, args = [.str s] ∧ r = .tup [nodeV (parseN s).1, .int .i64 (parseN s).2.1, .int .i64 (parseN s).2.2]
theorem RParse_ok (args r) (h : RParse args r) : Ok Tryd.prog 18 args r := by
  obtain ⟨s, rfl, rfl⟩ := h
  exact parse_ok s
theorem RParse_fn : Fun1 RParse := by
  rintro args r r' ⟨s, rfl, rfl⟩ ⟨s', h, rfl⟩
  simp only [List.cons.injEq, AV.str.injEq, and_true] at h
  rw [h]
/-- The table of contracts: known, Parse of whatever text, within. -/
noncomputable def XLP : FuncId → List AV → Option AV := tabLook [(13, tRel RKn4), (18, tRel RParse), (17, tRel RW)]
theorem XLP_ok : CPSound Tryd.prog XLP := tab_cons (tab_cons (tab_cons (tab_nil _) (tRel_ok within2_ok)) (tRel_ok RParse_ok)) (tRel_ok RKn4_ok)
theorem XLP_known : XLP 13 [] = some (.bool true) := tRel_eq (R := RKn4) RKn4_fn ⟨rfl, rfl⟩
theorem XLP_within (a n : Int) (h1 : 0 < n) (h2 : n ≤ 1000000) : XLP 17 [.int .i64 a, .int .i64 n] = some (.int .i64 (a % n)) := rw_eq h1 h2
theorem XLP_parse (s : List UInt8) : XLP 18 [.str s] = some (.tup [nodeV (parseN s).1, .int .i64 (parseN s).2.1, .int .i64 (parseN s).2.2]) := tRel_eq RParse_fn ⟨s, rfl, rfl⟩
def lenN : Nd → Nat
  | .mk _ _ _ _ l => l.length
def longS (k : Nat) (bad : Bool) : List UInt8 := if bad then List.replicate (k - 1) 119 ++ [120] else List.replicate k 119
def longE (k : Nat) (bad : Bool) : Int × Int := if 200 < k then (0, 4) else if bad then ((k : Int) - 1, 3) else (0, 0)
def longC (k : Nat) (bad : Bool) : Bool := decide ((parseN (longS k bad)).2 = longE k bad) && (decide (200 < k) || bad || (decide (kindN (parseN (longS k bad)).1 = 4) && decide (lenN (parseN (longS k bad)).1 = k)))
theorem long_all : (List.range 20).all (fun q => longC (190 + q) true && longC (190 + q) false) = true := by decide +kernel
theorem long_at {k : Nat} (h1 : 190 ≤ k) (h2 : k < 210) (bad : Bool) : longC k bad = true := by
  have h := List.all_eq_true.1 long_all (k - 190) (List.mem_range.2 (by omega))
  rw [Bool.and_eq_true] at h
  have e : 190 + (k - 190) = k := by omega
  rw [e] at h
  cases bad with
  | true => exact h.1
  | false => exact h.2
end Go.Proofs.YtmcbfbpdfbcakaaDoor.A
/- Sets: their texts, what Parse tells of them. -/
namespace Go.Proofs.YtmcbfbpdfbcakaaDoor.A
open Go
set_option maxRecDepth 20000
def signB (k : Nat) : UInt8 := signs5.getD k 0
/-- A set's text. -/
def setS (s : Nat) : List UInt8 :=
  let l := ((List.range 5).filter fun i => s / 2 ^ i % 2 = 1).map signB
  if s = 31 then [46] else if l.length = 1 then l else 91 :: l ++ [93]
noncomputable def XLS : FuncId → List AV → Option AV := tabLook [(13, tRel RKn4), (18, tRel RParse), (25, (calls E4 1000).1 25), (26, (calls E4 1000).1 26), (17, tRel RW)]
theorem XLS_ok : CPSound Tryd.prog XLS := tab_cons (tab_cons (tab_cons (tab_cons (tab_cons (tab_nil _) (tRel_ok within2_ok)) (fun args r h => ok_calls (E := E4) ext4_ok mixed h)) (fun args r h => ok_calls (E := E4) ext4_ok mixed h)) (tRel_ok RParse_ok)) (tRel_ok RKn4_ok)
theorem XLS_known : XLS 13 [] = some (.bool true) := tRel_eq (R := RKn4) RKn4_fn ⟨rfl, rfl⟩
theorem XLS_within (a n : Int) (h1 : 0 < n) (h2 : n ≤ 1000000) : XLS 17 [.int .i64 a, .int .i64 n] = some (.int .i64 (a % n)) := rw_eq h1 h2
theorem XLS_parse (s : List UInt8) : XLS 18 [.str s] = some (.tup [nodeV (parseN s).1, .int .i64 (parseN s).2.1, .int .i64 (parseN s).2.2]) := tRel_eq RParse_fn ⟨s, rfl, rfl⟩
abbrev setV (s : Int) : AV := .agg [.int .i64 1, .int .i64 s, .int .i64 0, .int .i64 0, .sl 0 []]
theorem text_all : ((List.range 31).map fun q => XLS 25 [setV ((q + 1 : Nat) : Int)]) = (List.range 31).map fun q => some (.str (setS (q + 1))) := by kernel_rfl
theorem size_all : ((List.range 31).map fun q => XLS 26 [setV ((q + 1 : Nat) : Int)]) = (List.range 31).map fun _ => some (.int .i64 1) := by kernel_rfl
theorem parse_all : ((List.range 31).map fun q => parseN (setS (q + 1))) = (List.range 31).map fun q => (.mk 1 ((q + 1 : Nat) : Int) 0 0 [], 0, 0) := by kernel_rfl
theorem map_at {α : Type} {f g : Nat → α} {n : Nat} (h : (List.range n).map f = (List.range n).map g) {q : Nat} (hq : q < n) : f q = g q := List.map_inj_left.1 h q (List.mem_range.2 hq)
theorem text_at {s : Nat} (h0 : 1 ≤ s) (h1 : s ≤ 31) : XLS 25 [setV (s : Int)] = some (.str (setS s)) := by
  have := map_at text_all (q := s - 1) (by omega)
  rwa [show s - 1 + 1 = s by omega] at this
theorem size_at {s : Nat} (h0 : 1 ≤ s) (h1 : s ≤ 31) : XLS 26 [setV (s : Int)] = some (.int .i64 1) := by
  have := map_at size_all (q := s - 1) (by omega)
  rwa [show s - 1 + 1 = s by omega] at this
theorem parse_at {s : Nat} (h0 : 1 ≤ s) (h1 : s ≤ 31) : parseN (setS s) = (.mk 1 (s : Int) 0 0 [], 0, 0) := by
  have := map_at parse_all (q := s - 1) (by omega)
  rwa [show s - 1 + 1 = s by omega] at this
/-! ### a class of signs -/
def orK (x : Int) (k : Nat) : Int := orN x k
def sumK (ks : List Nat) : Int := ks.foldl orK 0
theorem orN_pos {x i : Int} (h0 : 0 ≤ x) (h1 : x ≤ 31) (h2 : 0 ≤ i) (h3 : i ≤ 4) : 0 < orN x i := by
  have key : ∀ (a : Fin 32) (b : Fin 5), 0 < orN (a.1 : Int) (b.1 : Int) := by decide +kernel
  have := key ⟨x.toNat, by omega⟩ ⟨i.toNat, by omega⟩
  simp only [Int.toNat_of_nonneg h0, Int.toNat_of_nonneg h2] at this
  exact this
theorem fold_in : ∀ (ks : List Nat) (x : Int), (∀ k ∈ ks, k < 5) → 0 ≤ x → x ≤ 31 → 0 ≤ ks.foldl orK x ∧ ks.foldl orK x ≤ 31 ∧ (0 < x ∨ ks ≠ [] → 0 < ks.foldl orK x)
  | [], x, _, h0, h1 => ⟨h0, h1, fun h => h.elim id (fun e => absurd rfl e)⟩
  | k :: ks, x, hk, h0, h1 => by
    have hk5 := hk k (List.mem_cons_self ..)
    have h2 := orN_in h0 h1 (Int.natCast_nonneg k) (by omega)
    have h3 := orN_pos h0 h1 (Int.natCast_nonneg k) (by omega)
    have := fold_in ks (orN x k) (fun k' h => hk k' (List.mem_cons_of_mem _ h)) h2.1 h2.2
    exact ⟨this.1, this.2.1, fun _ => this.2.2 (.inl h3)⟩
theorem sign_signB {k : Nat} (h : k < 5) : signN ((signB k).toNat : Int) = k := by
  have : ∀ k : Fin 5, signN ((signB k.1).toNat : Int) = k.1 := by decide +kernel
  exact this ⟨k, h⟩
theorem byteN_app (p : List UInt8) (c : UInt8) (r : List UInt8) : byteN (p ++ c :: r) p.length = c.toNat := by
  rw [byteN, Int.toNat_natCast, List.getD_eq_getElem?_getD, List.getElem?_append_right (Nat.le_refl _), Nat.sub_self]
  rfl
theorem class_run : ∀ (ks : List Nat) (p : List UInt8) (out : Int), (∀ k ∈ ks, k < 5) → classF (p ++ ks.map signB ++ [93]) (ks.length + 1) p.length out = (ks.foldl orK out, decide (0 < ks.foldl orK out), (p.length : Int) + ks.length)
  | [], p, out, _ => by
    have e : p ++ List.map signB [] ++ [93] = p ++ 93 :: [] := by simp
    rw [e, List.length_nil, classF, byteN_app]
    have h1 : signN (((93 : UInt8).toNat : Nat) : Int) < 0 := by decide
    rw [if_pos h1]
    simp
    congr
  | k :: ks, p, out, hk => by
    have hk5 := hk k (List.mem_cons_self ..)
    have e : p ++ List.map signB (k :: ks) ++ [93] = p ++ signB k :: (ks.map signB ++ [93]) := by simp
    rw [e, List.length_cons, classF, byteN_app, sign_signB hk5, if_neg (by omega)]
    have ih := class_run ks (p ++ [signB k]) (orN out k) (fun k' h => hk k' (List.mem_cons_of_mem _ h))
    have e2 : p ++ signB k :: (ks.map signB ++ [93]) = p ++ [signB k] ++ ks.map signB ++ [93] := by simp
    have e3 : (p.length : Int) + 1 = ((p ++ [signB k]).length : Nat) := by rw [List.length_append]; rfl
    rw [e2, e3, ih, List.length_append, List.length_singleton]
    have e4 : orK out k = orN out k := rfl
    rw [List.foldl_cons, e4]
    simp only [Prod.mk.injEq, true_and]
    omega
def clsS (ks : List Nat) : List UInt8 := 91 :: ks.map signB
theorem parse_cls (ks : List Nat) (hk : ∀ k ∈ ks, k < 5) (hl : ks.length ≤ 20) : (ks = [] → (parseN (clsS ks ++ [93])).2.2 = 3) ∧ (ks ≠ [] → parseN (clsS ks ++ [93]) = (.mk 1 (sumK ks) 0 0 [], 0, 0)) := by
  have hlen : (clsS ks ++ [93]).length = ks.length + 2 := by rw [List.length_append, clsS, List.length_cons, List.length_map]; rfl
  have hrun := class_run ks [91] 0 hk
  have hb : byteN (clsS ks ++ [93]) 0 = 91 := rfl
  have hf := fold_in ks 0 hk (by omega) (by omega)
  have e0 : [91] ++ ks.map signB ++ [93] = clsS ks ++ [93] := rfl
  rw [e0] at hrun
  rw [parseN, if_neg (by omega), hlen, pGo, hlen, if_neg (by omega), hb, if_neg (by decide), if_pos rfl]
  have e1 : ks.length + 2 - ((0 : Int) + 1).toNat = ks.length + 1 := by show ks.length + 2 - 1 = _; omega
  have e2 : (0 : Int) + 1 = (([91] : List UInt8).length : Nat) := rfl
  rw [e1, e2, hrun]
  constructor
  · rintro rfl
    rfl
  · intro hne
    have hpos := hf.2.2 (.inr hne)
    simp only [hpos, decide_true]
    rw [if_neg (by decide), pGo, hlen, if_pos (by show _ ≤ (([91] : List UInt8).length : Int) + ks.length + 1; show _ ≤ (1 : Int) + _ + 1; omega), if_neg (by simp)]
    rfl
end Go.Proofs.YtmcbfbpdfbcakaaDoor.A
/- The plain law of the reader: fuel does not matter; single signs. -/
namespace Go.Proofs.YtmcbfbpdfbcakaaDoor.A
open Go
set_option maxRecDepth 20000
theorem pGo_fuel (s : List UInt8) : ∀ (f f' : Nat) (at_ : Int) (U J : List Nd) (B : Lvs), 1 ≤ f → 1 ≤ f' → (s.length : Int) - at_ < f → (s.length : Int) - at_ < f' → pGo s f at_ U J B = pGo s f' at_ U J B
  | 0, _, _, _, _, _, h, _, _, _ => by omega
  | _, 0, _, _, _, _, _, h, _, _ => by omega
  | f + 1, f' + 1, at_, U, J, B, _, _, h, h' => by
    rw [pGo, pGo]
    by_cases c0 : (s.length : Int) ≤ at_
    · rw [if_pos c0, if_pos c0]
    rw [if_neg c0, if_neg c0]
    have ih := fun at' U' J' B' (h : at_ + 1 ≤ at') => pGo_fuel s f f' at' U' J' B' (by omega) (by omega) (by omega) (by omega)
    have hq := (classF_in s (s.length - (at_ + 1).toNat) (at_ + 1) 0).1
    have e1 := fun U' J' B' => ih (at_ + 1) U' J' B' (by omega)
    have e2 := fun U' J' B' => ih (at_ + 5) U' J' B' (by omega)
    have e3 := fun U' J' B' => ih ((classF s (s.length - (at_ + 1).toNat) (at_ + 1) 0).2.2 + 1) U' J' B' (by omega)
    simp only [e1, e2, e3]
/-- The reader without fuel. -/
def pG (s : List UInt8) (at_ : Int) (U J : List Nd) (B : Lvs) : Nd × Int × Int := pGo s (((s.length : Int) - at_).toNat + 1) at_ U J B
theorem pG_eq (s : List UInt8) (at_ : Int) (U J : List Nd) (B : Lvs) : pG s at_ U J B =
    if (s.length : Int) ≤ at_ then (if B ≠ [] ∨ J = [] then (zeroN, at_, 3) else (manyN 5 (U ++ [manyN 4 J]), 0, 0))
    else if kindN (plainN (byteN s at_)) ≠ 0 then pG s (at_ + 1) U (J ++ [plainN (byteN s at_)]) B
    else if byteN s at_ = 91 then
      let q := classF s (s.length - (at_ + 1).toNat) (at_ + 1) 0
      if q.2.1 = false then (zeroN, q.2.2, 3) else pG s (q.2.2 + 1) U (J ++ [.mk 1 q.1 0 0 []]) B
    else if byteN s at_ = 40 then (if B.length + 1 > 30 then (zeroN, at_, 4) else pG s (at_ + 1) [] [] ((U, J) :: B))
    else if J = [] then (zeroN, at_, 3)
    else if afterN (byteN s at_) = 9 then
      let q := timesN s at_
      if 0 ≤ q.2.2 then (zeroN, q.2.2, 3) else pG s (at_ + 5) U (lastN 9 q.1 q.2.1 J) B
    else if afterN (byteN s at_) ≠ 0 then pG s (at_ + 1) U (lastN (afterN (byteN s at_)) 0 0 J) B
    else if byteN s at_ = 124 then pG s (at_ + 1) (U ++ [manyN 4 J]) [] B
    else if byteN s at_ = 41 ∧ B ≠ [] then pG s (at_ + 1) (B.headD ([], [])).1 ((B.headD ([], [])).2 ++ [manyN 5 (U ++ [manyN 4 J])]) B.tail
    else (zeroN, at_, 3) := by
  by_cases c0 : (s.length : Int) ≤ at_
  · rw [pG, pGo, if_pos c0, if_pos c0]
  rw [pG, pGo, if_neg c0, if_neg c0]
  have ih : ∀ at' U' J' B', at_ + 1 ≤ at' → pGo s ((s.length : Int) - at_).toNat at' U' J' B' = pG s at' U' J' B' := fun at' U' J' B' h => pGo_fuel s _ _ at' U' J' B' (by omega) (by omega) (by omega) (by omega)
  have hq := (classF_in s (s.length - (at_ + 1).toNat) (at_ + 1) 0).1
  have e1 := fun U' J' B' => ih (at_ + 1) U' J' B' (by omega)
  have e2 := fun U' J' B' => ih (at_ + 5) U' J' B' (by omega)
  have e3 := fun U' J' B' => ih ((classF s (s.length - (at_ + 1).toNat) (at_ + 1) 0).2.2 + 1) U' J' B' (by omega)
  simp only [e1, e2, e3]
theorem parseN_pG (s : List UInt8) : parseN s = if 200 < s.length then (zeroN, 0, 4) else pG s 0 [] [] [] := by
  rw [parseN, pG]
  rw [show ((s.length : Int) - 0).toNat = s.length by omega]
/-! ### a text stands at a place -/
def TAt (s : List UInt8) (a : Int) (t : List UInt8) : Prop := ∃ p r, s = p ++ t ++ r ∧ a = p.length
theorem TAt.app {s a t u} (h : TAt s a (t ++ u)) : TAt s a t ∧ TAt s (a + t.length) u := by
  obtain ⟨p, r, rfl, rfl⟩ := h
  exact ⟨⟨p, u ++ r, by simp, rfl⟩, ⟨p ++ t, r, by simp, by simp⟩⟩
theorem TAt.cons {s a c t} (h : TAt s a (c :: t)) : (byteN s a = c.toNat ∧ ¬ (s.length : Int) ≤ a ∧ 0 ≤ a) ∧ TAt s (a + 1) t := by
  have h' : TAt s a ([c] ++ t) := h
  obtain ⟨p, r, rfl, rfl⟩ := h
  refine ⟨⟨?_, ?_, by omega⟩, by simpa using h'.app.2⟩
  · rw [show p ++ c :: t ++ r = p ++ c :: (t ++ r) by simp, byteN_app]
  · simp; omega
theorem TAt.all (s : List UInt8) : TAt s 0 s := ⟨[], [], by simp, rfl⟩
theorem TAt.le {s a t} (h : TAt s a t) : a + t.length ≤ s.length ∧ 0 ≤ a := by
  obtain ⟨p, r, rfl, rfl⟩ := h
  simp; omega
/-! ### single signs -/
theorem plain_u8 {c : UInt8} (h : kindN (plainN c.toNat) ≠ 0) : c = 119 ∨ c = 98 ∨ c = 99 ∨ c = 102 ∨ c = 116 ∨ c = 46 ∨ c = 48 ∨ c = 95 := by
  have : ∀ n : Fin 256, kindN (plainN (n.1 : Nat)) ≠ 0 → n.1 = 119 ∨ n.1 = 98 ∨ n.1 = 99 ∨ n.1 = 102 ∨ n.1 = 116 ∨ n.1 = 46 ∨ n.1 = 48 ∨ n.1 = 95 := by decide +kernel
  have := this ⟨c.toNat, c.toNat_lt⟩ h
  simp only [← UInt8.toNat_inj]
  exact this
theorem pG_plain {s a c t U J B} (h : TAt s a (c :: t)) (hc : kindN (plainN c.toNat) ≠ 0) : pG s a U J B = pG s (a + 1) U (J ++ [plainN c.toNat]) B := by
  obtain ⟨⟨h1, h2, _⟩, _⟩ := h.cons
  rw [pG_eq, if_neg h2, h1, if_pos hc]
theorem pG_open {s a t U J B} (h : TAt s a (40 :: t)) (hb : B.length + 1 ≤ 30) : pG s a U J B = pG s (a + 1) [] [] ((U, J) :: B) := by
  obtain ⟨⟨h1, h2, _⟩, _⟩ := h.cons
  rw [pG_eq, if_neg h2, h1, if_neg (by decide), if_neg (by decide), if_pos (by decide), if_neg (by omega)]
theorem pG_close {s a t U J U0 J0 B} (h : TAt s a (41 :: t)) (hJ : J ≠ []) : pG s a U J ((U0, J0) :: B) = pG s (a + 1) U0 (J0 ++ [manyN 5 (U ++ [manyN 4 J])]) B := by
  obtain ⟨⟨h1, h2, _⟩, _⟩ := h.cons
  rw [pG_eq, if_neg h2, h1, if_neg (by decide), if_neg (by decide), if_neg (by decide), if_neg hJ, if_neg (by decide), if_neg (by decide), if_neg (by decide), if_pos ⟨rfl, by simp⟩]
  rfl
theorem pG_bar {s a t U J B} (h : TAt s a (124 :: t)) (hJ : J ≠ []) : pG s a U J B = pG s (a + 1) (U ++ [manyN 4 J]) [] B := by
  obtain ⟨⟨h1, h2, _⟩, _⟩ := h.cons
  rw [pG_eq, if_neg h2, h1, if_neg (by decide), if_neg (by decide), if_neg (by decide), if_neg hJ, if_neg (by decide), if_neg (by decide), if_pos (by decide)]
theorem last_snoc (k lo hi : Int) (J : List Nd) (x : Nd) : lastN k lo hi (J ++ [x]) = J ++ [.mk k 0 lo hi [x]] := by
  rw [lastN, List.dropLast_concat, List.getLastD_concat]
theorem pG_post {s a c t U J x B} (h : TAt s a (c :: t)) (hc : c = 42 ∨ c = 43 ∨ c = 63) : pG s a U (J ++ [x]) B = pG s (a + 1) U (J ++ [.mk (afterN c.toNat) 0 0 0 [x]]) B := by
  obtain ⟨⟨h1, h2, _⟩, _⟩ := h.cons
  rw [pG_eq, if_neg h2, h1]
  rcases hc with rfl | rfl | rfl <;>
  rw [if_neg (by decide), if_neg (by decide), if_neg (by decide), if_neg (by simp), if_neg (by decide), if_pos (by decide), last_snoc]
theorem byteN_nn (s a) : 0 ≤ byteN s a := by unfold byteN; omega
def dig (x : Nat) : UInt8 := UInt8.ofNat (48 + x)
theorem dig_nat {x : Nat} (h : x ≤ 9) : (dig x).toNat = 48 + x := by
  show (48 + x) % 256 = 48 + x
  omega
theorem pG_times {s a t U J x B} {lo hi : Nat} (h : TAt s a (123 :: dig lo :: 44 :: dig hi :: 125 :: t)) (h1 : lo ≤ hi) (h2 : hi ≤ 9) : pG s a U (J ++ [x]) B = pG s (a + 5) U (J ++ [.mk 9 0 lo hi [x]]) B := by
  obtain ⟨⟨b0, l0, n0⟩, g1⟩ := h.cons
  obtain ⟨⟨b1, l1, _⟩, g2⟩ := g1.cons
  obtain ⟨⟨b2, l2, _⟩, g3⟩ := g2.cons
  obtain ⟨⟨b3, l3, _⟩, g4⟩ := g3.cons
  obtain ⟨⟨b4, l4, _⟩, _⟩ := g4.cons
  rw [show a + 1 + 1 = a + 2 by omega] at *
  rw [show a + 2 + 1 = a + 3 by omega] at *
  rw [show a + 3 + 1 = a + 4 by omega] at *
  rw [dig_nat (by omega)] at b1 b3
  have d1 : digitN s (a + 1) = lo := by rw [digitN, if_neg l1, b1, if_pos (by omega)]; omega
  have d3 : digitN s (a + 3) = hi := by rw [digitN, if_neg l3, b3, if_pos (by omega)]; omega
  have s2 : signAt s (a + 2) 44 = -1 := by rw [signAt, if_neg l2, if_pos b2]
  have s4 : signAt s (a + 4) 125 = -1 := by rw [signAt, if_neg l4, if_pos b4]
  have ht : timesN s a = ((lo : Int), (hi : Int), -1) := by
    unfold timesN
    rw [d1, d3, s2, s4, if_neg (by omega), if_neg (by omega), if_neg (by decide), if_neg (by omega), if_neg (by omega), if_neg (by decide), if_neg (by omega)]
  rw [pG_eq, if_neg l0, b0, if_neg (by decide), if_neg (by decide), if_neg (by decide), if_neg (by simp), if_pos (by decide), ht, if_neg (show ¬ (0 : Int) ≤ -1 by decide), last_snoc]
/-! ### sets -/
def ksOfU (m : Nat) : List Nat := (List.range 5).filter fun i => m / 2 ^ i % 2 = 1
theorem set_all : ∀ q : Fin 31, (setS (q.1 + 1) = [46] ∧ q.1 + 1 = 31) ∨ (∃ k : Fin 5, setS (q.1 + 1) = [signB k.1] ∧ q.1 + 1 = 2 ^ k.1) ∨ (setS (q.1 + 1) = clsS (ksOfU (q.1 + 1)) ++ [93] ∧ sumK (ksOfU (q.1 + 1)) = ((q.1 + 1 : Nat) : Int) ∧ (ksOfU (q.1 + 1)).all (fun k => decide (k < 5)) = true) := by decide +kernel
theorem class_at : ∀ (ks : List Nat) (s : List UInt8) (a out : Int) (m : Nat), (∀ k ∈ ks, k < 5) → TAt s a (ks.map signB ++ [93]) → ks.length + 1 ≤ m → classF s m a out = (ks.foldl orK out, decide (0 < ks.foldl orK out), a + ks.length)
  | [], s, a, out, m, _, h, hm => by
    obtain ⟨m, rfl⟩ : ∃ m', m = m' + 1 := ⟨m - 1, by omega⟩
    have h : TAt s a [93] := h
    obtain ⟨⟨h1, _, _⟩, _⟩ := h.cons
    rw [classF, h1]
    have h1 : signN (((93 : UInt8).toNat : Nat) : Int) < 0 := by decide
    rw [if_pos h1]
    simp
    congr
  | k :: ks, s, a, out, m, hk, h, hm => by
    obtain ⟨m, rfl⟩ : ∃ m', m = m' + 1 := ⟨m - 1, by omega⟩
    have hk5 := hk k (List.mem_cons_self ..)
    have h : TAt s a (signB k :: (ks.map signB ++ [93])) := h
    obtain ⟨⟨h1, _, _⟩, h2⟩ := h.cons
    rw [classF, h1, sign_signB hk5, if_neg (by omega), class_at ks s (a + 1) (orN out k) m (fun k' h => hk k' (List.mem_cons_of_mem _ h)) h2 (by rw [List.length_cons] at hm; omega)]
    have e4 : orK out k = orN out k := rfl
    rw [List.foldl_cons, e4, List.length_cons]
    simp only [Prod.mk.injEq, true_and]
    omega
theorem pG_set {s a U J B} {m : Nat} (h : TAt s a (setS m)) (h0 : 1 ≤ m) (h1 : m ≤ 31) : pG s a U J B = pG s (a + (setS m).length) U (J ++ [.mk 1 m 0 0 []]) B := by
  obtain ⟨q, rfl⟩ : ∃ q, m = q + 1 := ⟨m - 1, by omega⟩
  rcases set_all ⟨q, by omega⟩ with ⟨e1, e2⟩ | ⟨k, e1, e2⟩ | ⟨e1, e2, e3⟩
  · simp only at e1 e2
    rw [e1] at h ⊢
    rw [e2, pG_plain h (by decide)]
    rfl
  · simp only at e1 e2
    rw [e1] at h ⊢
    have : ∀ k : Fin 5, kindN (plainN ((signB k.1).toNat : Nat)) ≠ 0 ∧ plainN ((signB k.1).toNat : Nat) = .mk 1 ((2 ^ k.1 : Nat) : Int) 0 0 [] := by
      intro k
      have hd : ∀ k : Fin 5, kindN (plainN ((signB k.1).toNat : Nat)) ≠ 0 := by decide
      refine ⟨hd k, ?_⟩
      match k with
      | ⟨0, _⟩ => rfl
      | ⟨1, _⟩ => rfl
      | ⟨2, _⟩ => rfl
      | ⟨3, _⟩ => rfl
      | ⟨4, _⟩ => rfl
    rw [e2, pG_plain h (this k).1, (this k).2]
    rfl
  · simp only at e1 e2 e3
    rw [e1] at h ⊢
    have hk : ∀ k ∈ ksOfU (q + 1), k < 5 := fun k hk => of_decide_eq_true (List.all_eq_true.1 e3 k hk)
    have hle := h.le
    have h' : TAt s a (91 :: ((ksOfU (q + 1)).map signB ++ [93])) := h
    obtain ⟨⟨b1, b2, b3⟩, h2⟩ := h'.cons
    have hl : (clsS (ksOfU (q + 1)) ++ [93]).length = (ksOfU (q + 1)).length + 2 := by rw [List.length_append, clsS, List.length_cons, List.length_map]; rfl
    rw [hl] at hle ⊢
    have hc := class_at (ksOfU (q + 1)) s (a + 1) 0 (s.length - (a + 1).toNat) hk h2 (by omega)
    have e2' : (ksOfU (q + 1)).foldl orK 0 = ((q + 1 : Nat) : Int) := e2
    rw [e2'] at hc
    rw [pG_eq, if_neg b2, b1, if_neg (by decide), if_pos (by decide), hc]
    have hd : decide ((0 : Int) < ((q + 1 : Nat) : Int)) = true := decide_eq_true (by omega)
    simp only [hd]
    rw [if_neg (by decide)]
    congr 1
    omega
end Go.Proofs.YtmcbfbpdfbcakaaDoor.A
/- What is written of a right expression is read as it was. -/
namespace Go.Proofs.YtmcbfbpdfbcakaaDoor.A
open Go
set_option maxRecDepth 20000
/-! ### an expression's text -/
def tailS (k lo hi : Int) : List UInt8 := if k = 6 then [42] else if k = 7 then [43] else if k = 8 then [63] else [123, dig lo.toNat, 44, dig hi.toNat, 125]
def brkS (b : Bool) (t : List UInt8) : List UInt8 := if b then 40 :: t ++ [41] else t
mutual
def textN (w : Int) : Nd → List UInt8
  | .mk k s lo hi l => if k = 1 then setS s.toNat else if k = 2 then [48] else if k = 3 then [95]
    else if k = 4 ∨ k = 5 then brkS (decide (w ≠ 0 ∧ (k = 5 ∨ w ≠ 5))) (Lib.join (textNs k l) (if k = 5 then [124] else []))
    else (textNs k l).headD [] ++ tailS k lo hi
def textNs (w : Int) : List Nd → List (List UInt8)
  | [] => []
  | x :: l => textN w x :: textNs w l
end
theorem textNs_map (w : Int) (l : List Nd) : textNs w l = l.map (textN w) := by
  induction l with
  | nil => rw [textNs]; rfl
  | cons x l ih => rw [textNs, ih, List.map_cons]
mutual
/-- How deep a text's brackets are: as a part of a join, of a union. -/
def bd : Nd → Nat
  | .mk k _ _ _ l => if k = 4 then 1 + bds l else if k = 5 then 1 + bd5s l else bds l
def bd5 : Nd → Nat
  | .mk k _ _ _ l => if k = 4 then bds l else if k = 5 then 1 + bd5s l else bds l
def bds : List Nd → Nat
  | [] => 0
  | x :: l => max (bd x) (bds l)
def bd5s : List Nd → Nat
  | [] => 0
  | x :: l => max (bd5 x) (bd5s l)
end
def bd0 : Nd → Nat
  | .mk k _ _ _ l => if k = 5 then bd5s l else bds l
theorem bds_le {l : List Nd} {x : Nd} (h : x ∈ l) : bd x ≤ bds l := by
  induction l with
  | nil => cases h
  | cons y l ih =>
    rw [bds]
    rcases List.mem_cons.1 h with rfl | h
    · omega
    · have := ih h; omega
theorem bd5s_le {l : List Nd} {x : Nd} (h : x ∈ l) : bd5 x ≤ bd5s l := by
  induction l with
  | nil => cases h
  | cons y l ih =>
    rw [bd5s]
    rcases List.mem_cons.1 h with rfl | h
    · omega
    · have := ih h; omega
theorem join_one (t sep : List UInt8) : Lib.join [t] sep = t := by simp [Lib.join, List.intercalate]
theorem join_cons2 (t u : List UInt8) (l : List (List UInt8)) (sep : List UInt8) : Lib.join (t :: u :: l) sep = t ++ (sep ++ Lib.join (u :: l) sep) := by simp [Lib.join, List.intercalate]
theorem join_flat (l : List (List UInt8)) : Lib.join l [] = l.flatten := by
  induction l with
  | nil => rfl
  | cons t l ih =>
    cases l with
    | nil => simp [join_one]
    | cons u l => rw [join_cons2, ih]; rfl
/-! ### what is read of a text -/
def Piece (n : Nd) : Prop := ∀ (w : Int), w = 4 ∨ 6 ≤ w → ∀ s a U J B, TAt s a (textN w n) → B.length + bd n ≤ 30 → pG s a U J B = pG s (a + (textN w n).length) U (J ++ [n]) B
theorem pieces {l : List Nd} (hl : ∀ x ∈ l, Piece x) {w : Int} (hw : w = 4 ∨ 6 ≤ w) : ∀ {s a U J B}, TAt s a (textNs w l).flatten → B.length + bds l ≤ 30 → pG s a U J B = pG s (a + (textNs w l).flatten.length) U (J ++ l) B := by
  induction l with
  | nil =>
    intro s a U J B h hb
    rw [textNs]
    simp
  | cons x l ih =>
    intro s a U J B h hb
    rw [textNs, List.flatten_cons] at h ⊢
    rw [bds] at hb
    obtain ⟨h1, h2⟩ := h.app
    rw [hl x List.mem_cons_self w hw s a U J B h1 (by omega), ih (fun y hy => hl y (List.mem_cons_of_mem _ hy)) h2 (by omega), List.append_assoc, List.length_append]
    congr 1
    omega
/-- A union's part. -/
theorem part_read {x : Nd} (hr : rightN x = true) (hp : Piece x) (hk : ∀ k s lo hi l, x = .mk k s lo hi l → ∀ y ∈ l, Piece y) {s a U B} (h : TAt s a (textN 5 x)) (hb : B.length + bd5 x ≤ 30) :
    ∃ J', J' ≠ [] ∧ manyN 4 J' = x ∧ pG s a U [] B = pG s (a + (textN 5 x).length) U J' B := by
  obtain ⟨k, se, lo, hi, l⟩ := x
  obtain ⟨hx, hc⟩ := right_cases hr
  by_cases h4 : k = 4
  · subst h4
    have hcc : se = 0 ∧ lo = 0 ∧ hi = 0 ∧ ∃ x y r, l = x :: y :: r := by
      rcases hc with h | h | h | h | h
      · exact absurd h.1 (by decide)
      · exact absurd h.1 (by decide)
      · exact h.2
      · exact absurd h.1 (by decide)
      · exact absurd h.1 (by decide)
    obtain ⟨rfl, rfl, rfl, y1, y2, r, rfl⟩ := hcc
    have et : textN 5 (.mk 4 0 0 0 (y1 :: y2 :: r)) = (textNs 4 (y1 :: y2 :: r)).flatten := by
      rw [textN, if_neg (by decide), if_neg (by decide), if_neg (by decide), if_pos (.inl rfl), if_neg (by decide), join_flat]
      rfl
    rw [et] at h ⊢
    rw [bd5, if_pos rfl] at hb
    refine ⟨y1 :: y2 :: r, by simp, rfl, ?_⟩
    exact pieces (hk _ _ _ _ _ rfl) (.inl rfl) h hb
  · have et : textN 5 (.mk k se lo hi l) = textN 4 (.mk k se lo hi l) := by
      rw [textN, textN]
      by_cases h5 : k = 5 <;> simp [h4, h5]
    have eb : bd5 (.mk k se lo hi l) = bd (.mk k se lo hi l) := by rw [bd5, bd, if_neg h4, if_neg h4]
    rw [et] at h ⊢
    exact ⟨[.mk k se lo hi l], by simp, rfl, hp 4 (.inl rfl) s a U [] B h (by omega)⟩
theorem parts_read {l : List Nd} (hr : ∀ x ∈ l, rightN x = true) (hp : ∀ x ∈ l, Piece x) (hk : ∀ x ∈ l, ∀ k s lo hi l', x = .mk k s lo hi l' → ∀ y ∈ l', Piece y) (hne : l ≠ []) : ∀ {s a U B}, TAt s a (Lib.join (textNs 5 l) [124]) → B.length + bd5s l ≤ 30 →
    ∃ U' J', J' ≠ [] ∧ U' ++ [manyN 4 J'] = U ++ l ∧ pG s a U [] B = pG s (a + (Lib.join (textNs 5 l) [124]).length) U' J' B := by
  induction l with
  | nil => exact absurd rfl hne
  | cons x l ih =>
    intro s a U B h hb
    rw [bd5s] at hb
    have hx := List.mem_cons_self (a := x) (l := l)
    cases l with
    | nil =>
      rw [textNs, textNs, join_one] at h ⊢
      obtain ⟨J', h1, h2, h3⟩ := part_read (hr x hx) (hp x hx) (hk x hx) (U := U) (B := B) h (by omega)
      exact ⟨U, J', h1, by rw [h2], h3⟩
    | cons y l =>
      have e : Lib.join (textNs 5 (x :: y :: l)) [124] = textN 5 x ++ (124 :: Lib.join (textNs 5 (y :: l)) [124]) := by
        rw [textNs, textNs, join_cons2]; rfl
      rw [e] at h ⊢
      obtain ⟨g1, g2⟩ := h.app
      obtain ⟨J', h1, h2, h3⟩ := part_read (hr x hx) (hp x hx) (hk x hx) (U := U) (B := B) g1 (by omega)
      obtain ⟨_, g3⟩ := g2.cons
      obtain ⟨U'', J'', h4, h5, h6⟩ := ih (fun z hz => hr z (List.mem_cons_of_mem _ hz)) (fun z hz => hp z (List.mem_cons_of_mem _ hz)) (fun z hz => hk z (List.mem_cons_of_mem _ hz)) (by simp) (U := U ++ [manyN 4 J']) (B := B) g3 (by omega)
      refine ⟨U'', J'', h4, by rw [h5, h2]; simp, ?_⟩
      rw [h3, pG_bar g2 h1, h6, List.length_append, List.length_cons]
      congr 1
      omega
/-- A whole text, behind a bracket or at the start. -/
theorem whole_read {n : Nd} (hr : rightN n = true) (hp : Piece n) (hd : ∀ k s lo hi l, n = .mk k s lo hi l → (∀ y ∈ l, Piece y) ∧ ∀ y ∈ l, ∀ k s lo hi l', y = .mk k s lo hi l' → ∀ z ∈ l', Piece z) {s a B} (h : TAt s a (textN 0 n)) (hb : B.length + bd0 n ≤ 30) :
    ∃ U' J', J' ≠ [] ∧ manyN 5 (U' ++ [manyN 4 J']) = n ∧ pG s a [] [] B = pG s (a + (textN 0 n).length) U' J' B := by
  obtain ⟨k, se, lo, hi, l⟩ := n
  obtain ⟨hx, hc⟩ := right_cases hr
  obtain ⟨hl, hll⟩ := hd _ _ _ _ _ rfl
  by_cases h45 : k = 4 ∨ k = 5
  · have hcc : se = 0 ∧ lo = 0 ∧ hi = 0 ∧ ∃ x y r, l = x :: y :: r := by
      rcases hc with h | h | h | h | h
      · omega
      · omega
      · exact h.2
      · omega
      · omega
    obtain ⟨rfl, rfl, rfl, y1, y2, r, rfl⟩ := hcc
    rcases h45 with rfl | rfl
    · have et : textN 0 (.mk 4 0 0 0 (y1 :: y2 :: r)) = (textNs 4 (y1 :: y2 :: r)).flatten := by
        rw [textN, if_neg (by decide), if_neg (by decide), if_neg (by decide), if_pos (.inl rfl), if_neg (by decide), join_flat]
        rfl
      rw [et] at h ⊢
      rw [bd0, if_neg (by decide)] at hb
      exact ⟨[], y1 :: y2 :: r, by simp, rfl, pieces hl (.inl rfl) h hb⟩
    · have et : textN 0 (.mk 5 0 0 0 (y1 :: y2 :: r)) = Lib.join (textNs 5 (y1 :: y2 :: r)) [124] := by
        rw [textN, if_neg (by decide), if_neg (by decide), if_neg (by decide), if_pos (.inr rfl), if_pos rfl]
        rfl
      rw [et] at h ⊢
      rw [bd0, if_pos rfl] at hb
      obtain ⟨U', J', h1, h2, h3⟩ := parts_read hx hl hll (by simp) (U := []) h hb
      exact ⟨U', J', h1, by rw [h2]; rfl, h3⟩
  · have et : textN 0 (.mk k se lo hi l) = textN 4 (.mk k se lo hi l) := by
      rw [textN, textN, if_neg h45, if_neg h45]
    have eb : bd (.mk k se lo hi l) = bd0 (.mk k se lo hi l) := by rw [bd0, bd, if_neg (fun e => h45 (.inl e)), if_neg (fun e => h45 (.inr e)), if_neg (fun e => h45 (.inr e))]
    rw [et] at h ⊢
    exact ⟨[], [.mk k se lo hi l], by simp, rfl, hp 4 (.inl rfl) s a [] [] B h (by omega)⟩
theorem piece_all : ∀ (N : Nat) (n : Nd), SizeOf.sizeOf n < N → rightN n = true → Piece n
  | 0, n, h, _ => by omega
  | N + 1, .mk k se lo hi l, hN, hr => by
    obtain ⟨hx, hc⟩ := right_cases hr
    have hsz : ∀ x ∈ l, SizeOf.sizeOf x < SizeOf.sizeOf (Nd.mk k se lo hi l) := fun x hx => by
      have := List.sizeOf_lt_of_mem hx
      simp only [Nd.mk.sizeOf_spec]
      omega
    have hp : ∀ x ∈ l, Piece x := fun x h => piece_all N x (by have := hsz x h; omega) (hx x h)
    have hpp : ∀ x ∈ l, ∀ k s lo hi l', x = .mk k s lo hi l' → ∀ y ∈ l', Piece y := fun x h k s lo hi l' e y hy => by
      have h1 := hsz x h
      have h2 := List.sizeOf_lt_of_mem hy
      have h3 := hx x h
      rw [e] at h1 h3
      have h4 : SizeOf.sizeOf l' < SizeOf.sizeOf (Nd.mk k s lo hi l') := by simp only [Nd.mk.sizeOf_spec]; omega
      exact piece_all N y (by omega) ((right_cases h3).1 y hy)
    intro w hw s a U J B h hb
    rcases hc with ⟨rfl, rfl, rfl, rfl, h0, h1⟩ | ⟨hk, rfl, rfl, rfl, rfl⟩ | ⟨hk, rfl, rfl, rfl, y1, y2, r, rfl⟩ | ⟨hk, rfl, rfl, rfl, x, rfl⟩ | ⟨rfl, rfl, h0, h1, h2, x, rfl⟩
    · rw [textN, if_pos rfl] at h ⊢
      rw [pG_set h (by omega) (by omega), Int.toNat_of_nonneg (by omega)]
    · rcases hk with rfl | rfl
      · rw [textN, if_neg (by decide), if_pos rfl] at h ⊢
        rw [pG_plain h (by decide)]
        rfl
      · rw [textN, if_neg (by decide), if_neg (by decide), if_pos rfl] at h ⊢
        rw [pG_plain h (by decide)]
        rfl
    · -- brackets around
      have et : textN w (.mk k 0 0 0 (y1 :: y2 :: r)) = 40 :: (textN 0 (.mk k 0 0 0 (y1 :: y2 :: r)) ++ [41]) := by
        have : ¬ k = 1 := by omega
        have h2 : ¬ k = 2 := by omega
        have h3 : ¬ k = 3 := by omega
        rw [textN, textN, if_neg this, if_neg h2, if_neg h3, if_pos hk, if_neg this, if_neg h2, if_neg h3, if_pos hk]
        have hd : decide (w ≠ 0 ∧ (k = 5 ∨ w ≠ 5)) = true := decide_eq_true ⟨by omega, by omega⟩
        rw [hd]
        simp [brkS]
      have eb : bd (.mk k 0 0 0 (y1 :: y2 :: r)) = 1 + bd0 (.mk k 0 0 0 (y1 :: y2 :: r)) := by
        rw [bd, bd0]
        rcases hk with rfl | rfl <;> rfl
      rw [et] at h ⊢
      obtain ⟨_, g1⟩ := h.cons
      obtain ⟨g2, g3⟩ := g1.app
      have hpn : Piece (.mk k 0 0 0 (y1 :: y2 :: r)) → True := fun _ => trivial
      -- the inside is read as a whole; it needs no piece of the node itself
      have hin : ∃ U' J', J' ≠ [] ∧ manyN 5 (U' ++ [manyN 4 J']) = .mk k 0 0 0 (y1 :: y2 :: r) ∧ pG s (a + 1) [] [] ((U, J) :: B) = pG s (a + 1 + (textN 0 (.mk k 0 0 0 (y1 :: y2 :: r))).length) U' J' ((U, J) :: B) := by
        have hbl : ((U, J) :: B).length + bd0 (.mk k 0 0 0 (y1 :: y2 :: r)) ≤ 30 := by rw [List.length_cons]; omega
        rcases hk with rfl | rfl
        · have et0 : textN 0 (.mk 4 0 0 0 (y1 :: y2 :: r)) = (textNs 4 (y1 :: y2 :: r)).flatten := by
            rw [textN, if_neg (by decide), if_neg (by decide), if_neg (by decide), if_pos (.inl rfl), if_neg (by decide), join_flat]
            rfl
          rw [et0] at g2 ⊢
          rw [bd0, if_neg (by decide)] at hbl
          exact ⟨[], y1 :: y2 :: r, by simp, rfl, pieces hp (.inl rfl) g2 hbl⟩
        · have et0 : textN 0 (.mk 5 0 0 0 (y1 :: y2 :: r)) = Lib.join (textNs 5 (y1 :: y2 :: r)) [124] := by
            rw [textN, if_neg (by decide), if_neg (by decide), if_neg (by decide), if_pos (.inr rfl), if_pos rfl]
            rfl
          rw [et0] at g2 ⊢
          rw [bd0, if_pos rfl] at hbl
          obtain ⟨U', J', h1, h2, h3⟩ := parts_read hx hp hpp (by simp) (U := []) g2 hbl
          exact ⟨U', J', h1, by rw [h2]; rfl, h3⟩
      obtain ⟨U', J', h1, h2, h3⟩ := hin
      rw [pG_open h (by omega), h3, pG_close g3 h1, h2, List.length_cons, List.length_append]
      congr 1
      simp
      omega
    · have hxp := hp x (by simp)
      have ht : ∃ c : UInt8, (c = 42 ∨ c = 43 ∨ c = 63) ∧ afterN (c.toNat : Nat) = k ∧ textN w (.mk k 0 0 0 [x]) = textN k x ++ [c] := by
        rcases hk with rfl | rfl | rfl
        · refine ⟨42, .inl rfl, rfl, ?_⟩
          rw [textN, if_neg (by decide), if_neg (by decide), if_neg (by decide), if_neg (by decide), textNs]; rfl
        · refine ⟨43, .inr (.inl rfl), rfl, ?_⟩
          rw [textN, if_neg (by decide), if_neg (by decide), if_neg (by decide), if_neg (by decide), textNs]; rfl
        · refine ⟨63, .inr (.inr rfl), rfl, ?_⟩
          rw [textN, if_neg (by decide), if_neg (by decide), if_neg (by decide), if_neg (by decide), textNs]; rfl
      obtain ⟨c, hc, hcn, ht⟩ := ht
      rw [ht] at h ⊢
      rw [bd, if_neg (by omega), if_neg (by omega), bds, bds] at hb
      obtain ⟨g1, g2⟩ := h.app
      rw [hxp k (.inr (by omega)) s a U J B g1 (by omega), pG_post g2 hc, hcn, List.length_append]
      congr 1
      show _ = a + ((_ + 1 : Nat) : Int)
      omega
    · have hxp := hp x (by simp)
      have ht : textN w (.mk 9 0 lo hi [x]) = textN 9 x ++ [123, dig lo.toNat, 44, dig hi.toNat, 125] := by
        rw [textN, if_neg (by decide), if_neg (by decide), if_neg (by decide), if_neg (by decide), textNs]; rfl
      rw [ht] at h ⊢
      rw [bd, if_neg (by decide), if_neg (by decide), bds, bds] at hb
      obtain ⟨g1, g2⟩ := h.app
      rw [hxp 9 (.inr (by omega)) s a U J B g1 (by omega), pG_times g2 (by omega) (by omega), List.length_append, Int.toNat_of_nonneg (by omega), Int.toNat_of_nonneg (by omega)]
      congr 1
      show _ = a + ((_ + 5 : Nat) : Int)
      omega
theorem piece_of {n : Nd} (h : rightN n = true) : Piece n := piece_all _ n (Nat.lt_succ_self _) h
/-- What is written of a right expression is read as it was. -/
theorem parse_text {n : Nd} (h : rightN n = true) (hb : bd0 n ≤ 30) (hl : (textN 0 n).length ≤ 200) : parseN (textN 0 n) = (n, 0, 0) := by
  rw [parseN_pG, if_neg (by omega)]
  obtain ⟨U, J, h1, h2, h3⟩ := whole_read h (piece_of h) (fun k s lo hi l e => by
    rw [e] at h
    refine ⟨fun y hy => piece_of ((right_cases h).1 y hy), fun y hy k' s' lo' hi' l' e' z hz => ?_⟩
    have := (right_cases h).1 y hy
    rw [e'] at this
    exact piece_of ((right_cases this).1 z hz)) (B := []) (TAt.all (textN 0 n)) (by simpa using hb)
  rw [h3, pG_eq, if_pos (by omega), if_neg (by simp [h1]), h2]
end Go.Proofs.YtmcbfbpdfbcakaaDoor.A
/- strconv.Itoa: a number's digits, by the kit's shelf. -/
namespace Go.Proofs.YtmcbfbpdfbcakaaDoor.A
open Go
noncomputable def renIt : Shelf.Ren := ⟨fun x => if x = 171 then 55 else if x = 243 then 61 else if x = 246 then 67 else if x = 283 then 73 else if x = 284 then 74 else if x = 285 then 75 else if x = 286 then 76 else if x = 129 then 78 else if x = 317 then 77 else if x = 318 then 79 else if x = 319 then 80 else if x = 320 then 81 else if x = 337 then 82 else if x = 338 then 83 else x, fun x => if x = 3 then 3 else if x = 9 then 9 else if x = 2 then 2 else if x = 4 then 4 else if x = 171 then 106 else if x = 0 then 0 else if x = 53 then 107 else if x = 37 then 31 else if x = 5 then 5 else if x = 173 then 110 else if x = 212 then 113 else if x = 51 then 114 else if x = 20 then 20 else if x = 213 then 115 else if x = 46 then 50 else if x = 232 then 118 else if x = 233 then 119 else x, fun x => if x = 17 then 1 else if x = 18 then 2 else if x = 19 then 3 else x⟩
theorem laysIt : LaysM.n171 Tryd.prog renIt where
  mixed := mixed
  f129 := Tryd.func78.trans (congrArg some (by kernel_rfl))
  f171 := Tryd.func55.trans (congrArg some (by kernel_rfl))
  f243 := Tryd.func61.trans (congrArg some (by kernel_rfl))
  f246 := Tryd.func67.trans (congrArg some (by kernel_rfl))
  f283 := Tryd.func73.trans (congrArg some (by kernel_rfl))
  f284 := Tryd.func74.trans (congrArg some (by kernel_rfl))
  f285 := Tryd.func75.trans (congrArg some (by kernel_rfl))
  f286 := Tryd.func76.trans (congrArg some (by kernel_rfl))
  f317 := Tryd.func77.trans (congrArg some (by kernel_rfl))
  f318 := Tryd.func79.trans (congrArg some (by kernel_rfl))
  f319 := Tryd.func80.trans (congrArg some (by kernel_rfl))
  f320 := Tryd.func81.trans (congrArg some (by kernel_rfl))
  f337 := Tryd.func82.trans (congrArg some (by kernel_rfl))
  f338 := Tryd.func83.trans (congrArg some (by kernel_rfl))
  t0 := Tryd.underlying0
  a0 := Tryd.isAgg0
  z0 := Tryd.sizeOf0
  v0 := Tryd.zeroValue0
  t2 := Tryd.underlying2
  a2 := Tryd.isAgg2
  z2 := Tryd.sizeOf2
  v2 := Tryd.zeroValue2
  t3 := Tryd.underlying3
  a3 := Tryd.isAgg3
  z3 := Tryd.sizeOf3
  v3 := Tryd.zeroValue3
  t4 := Tryd.underlying4
  a4 := Tryd.isAgg4
  z4 := Tryd.sizeOf4
  v4 := Tryd.zeroValue4
  t5 := Tryd.underlying5
  a5 := Tryd.isAgg5
  z5 := Tryd.sizeOf5
  v5 := Tryd.zeroValue5
  t9 := Tryd.underlying9
  a9 := Tryd.isAgg9
  z9 := Tryd.sizeOf9
  v9 := Tryd.zeroValue9
  t20 := Tryd.underlying20
  a20 := Tryd.isAgg20
  z20 := Tryd.sizeOf20
  v20 := Tryd.zeroValue20
  t37 := Tryd.underlying31
  a37 := Tryd.isAgg31
  z37 := Tryd.sizeOf31
  v37 := Tryd.zeroValue31
  t46 := Tryd.underlying50
  a46 := Tryd.isAgg50
  z46 := Tryd.sizeOf50
  v46 := Tryd.zeroValue50
  t51 := Tryd.underlying114
  a51 := Tryd.isAgg114
  z51 := Tryd.sizeOf114
  v51 := Tryd.zeroValue114
  t53 := Tryd.underlying107
  a53 := Tryd.isAgg107
  z53 := Tryd.sizeOf107
  v53 := Tryd.zeroValue107
  t171 := Tryd.underlying106
  a171 := Tryd.isAgg106
  z171 := Tryd.sizeOf106
  v171 := Tryd.zeroValue106
  t173 := Tryd.underlying110
  a173 := Tryd.isAgg110
  z173 := Tryd.sizeOf110
  v173 := Tryd.zeroValue110
  t212 := Tryd.underlying113
  a212 := Tryd.isAgg113
  z212 := Tryd.sizeOf113
  v212 := Tryd.zeroValue113
  t213 := Tryd.underlying115
  a213 := Tryd.isAgg115
  z213 := Tryd.sizeOf115
  t232 := Tryd.underlying118
  a232 := Tryd.isAgg118
  z232 := Tryd.sizeOf118
  v232 := Tryd.zeroValue118
  t233 := Tryd.underlying119
  a233 := Tryd.isAgg119
  z233 := Tryd.sizeOf119
  v233 := Tryd.zeroValue119
  g17 := by kernel_rfl
  g18 := by kernel_rfl
  g19 := by kernel_rfl
  i0 := by kernel_rfl
  i2 := by kernel_rfl
  i3 := by kernel_rfl
  i4 := by kernel_rfl
  i5 := by kernel_rfl
  i9 := by kernel_rfl
  i20 := by kernel_rfl
  i37 := by kernel_rfl
  i46 := by kernel_rfl
  i51 := by kernel_rfl
  i53 := by kernel_rfl
  i171 := by kernel_rfl
  i173 := by kernel_rfl
  i212 := by kernel_rfl
  i232 := by kernel_rfl
  i233 := by kernel_rfl
  m17 := by kernel_rfl
  m18 := by kernel_rfl
  m19 := by kernel_rfl
theorem gl_tab {S : Nat → Prop} {w : World} (h : Gl S w) : Lib.TabIs Tryd.prog w "internal/strconv.uint64pow10" .u64 Lib.pow10Tab := by
  obtain ⟨_, t, m, hh⟩ := h _ (List.mem_singleton.2 rfl)
  unfold Lib.TabIs World.var?
  rw [show Tryd.prog.globalNamed "internal/strconv.uint64pow10" = some 1 by kernel_rfl]
  simp only [Option.bind_some]
  rw [hh]
def RItoa (args : List AV) (r : AV) : Prop := ∃ n : Int, -9223372036854775808 ≤ n ∧ n ≤ 9223372036854775807 ∧ args = [.int .i64 n] ∧ r = .str (Lib.itoa n)
theorem RItoa_fn : Fun1 RItoa := by
  rintro args r r' ⟨n, _, _, rfl, rfl⟩ ⟨n', _, _, h, rfl⟩
  simp only [List.cons.injEq, AV.int.injEq, true_and, and_true] at h
  rw [h]
theorem RItoa_ok (args r) (h : RItoa args r) : Ok Tryd.prog 55 args r := by
  obtain ⟨n, h0, h1, rfl, rfl⟩ := h
  refine ⟨⟨Tryd.f55, Tryd.func55, by kernel_rfl, by kernel_rfl⟩, fun S w cargs ha hS hG => ?_⟩
  obtain ⟨hl, hr⟩ := ha
  match cargs, hl with
  | [u], _ =>
    have h2 := hr 0 _ _ rfl rfl
    cases h2
    refine (Any.strconv_Itoa laysIt n h0 h1 w (gl_tab hG)).mono ?_
    rintro e w' ⟨rfl, k, os, rfl⟩
    have hb : RowKit.Below w.heap.size w (Sort.grow (w.drewN k) os) := by
      have hd : (w.drewN k).heap = w.heap ∧ (w.drewN k).os = w.os ∧ (w.drewN k).tape = w.tape ∧ (w.drewN k).output = w.output := by
        cases k <;> exact ⟨rfl, rfl, rfl, rfl⟩
      refine ⟨hd.2.1, hd.2.2.1, hd.2.2.2, by rw [Sort.size_grow, hd.1]; omega, fun i hi => ?_⟩
      rw [Sort.heap_grow_old _ _ (by rw [hd.1]; exact hi), hd.1]
    refine ⟨_, S, rfl, hb, .str _, fun _ h => h, fun b hb' => ⟨.inl hb', ?_⟩⟩
    have h5 := hS b hb'
    have h6 := hb.size
    omega
end Go.Proofs.YtmcbfbpdfbcakaaDoor.A
