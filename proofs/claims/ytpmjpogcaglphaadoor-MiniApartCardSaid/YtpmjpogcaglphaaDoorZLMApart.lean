/- MiniApart answers true for whatever it is called with; the input reads as it did. -/
import Derived.Test.YtpmjpogcaglphaaDoorME91
import Derived.Test.YtpmjpogcaglphaaDoorME92
import Derived.Test.YtpmjpogcaglphaaDoorME93
import Derived.Test.YtpmjpogcaglphaaDoorME94
import Derived.Test.YtpmjpogcaglphaaDoorME95
import Derived.Test.YtpmjpogcaglphaaDoorME96
import Derived.Test.YtpmjpogcaglphaaDoorME97
import Derived.Test.YtpmjpogcaglphaaDoorME98
import Derived.Test.YtpmjpogcaglphaaDoorME99
import Derived.Test.YtpmjpogcaglphaaDoorME141
set_option linter.unusedVariables false
set_option linter.unusedSimpArgs false
set_option linter.unnecessarySimpa false
/- What is sealed reads as it did. -/
namespace Go.Proofs.YtpmjpogcaglphaaDoor.A
open Go
theorem aRow_sealed (ts : List Tag) (o : Ob) (k g : Tag) : aRow (sealed ts o) k g = (aRow o k g).map fun r => if ts.contains k then { r with ro := true } else r := by
  unfold aRow sealed
  cases o k with
  | none => rfl
  | some x =>
    cases x with
    | map es => rfl
    | row r =>
      dsimp only
      by_cases h : ts.contains k = true
      · simp only [h, if_true]
        by_cases hg : r.gen = g <;> simp [hg]
      · simp only [h, Bool.false_eq_true, if_false]
        by_cases hg : r.gen = g <;> simp [hg]
theorem view_sealed (ts : List Tag) (o : Ob) : ∀ (d : Nat) (v : AV), view (sealed ts o) d v = view o d v
  | 0, v => rfl
  | d + 1, v => by
    have ih := fun l : List AV => List.map_congr_left (l := l) fun x _ => view_sealed ts o d x
    cases v with
    | agg cs => simp only [view]; rw [ih]
    | tup cs => simp only [view]; rw [ih]
    | fn f x y => simp only [view]; rw [ih, ih]
    | ref k g off n =>
      simp only [view]
      rw [aRow_sealed]
      cases aRow o k g with
      | none => rfl
      | some r =>
        simp only [Option.map_some]
        by_cases h : ts.contains k = true
        · simp only [h, if_true]; rw [ih]
        · simp only [h, Bool.false_eq_true, if_false]; rw [ih]
    | ptr k g off =>
      simp only [view]
      rw [aRow_sealed]
      cases aRow o k g with
      | none => rfl
      | some r =>
        simp only [Option.map_some]
        by_cases h : ts.contains k = true
        · simp only [h, if_true]; rw [ih]
        · simp only [h, Bool.false_eq_true, if_false]; rw [ih]
    | _ => rfl
theorem tags_sealed (ts : List Tag) (o : Ob) : ∀ (d : Nat) (v : AV), viewTags (sealed ts o) d v = viewTags o d v
  | 0, v => rfl
  | d + 1, v => by
    have ih : ∀ l : List AV, l.flatMap (viewTags (sealed ts o) d) = l.flatMap (viewTags o d) := fun l => by
      rw [List.flatMap_def, List.flatMap_def]
      congr 1
      exact List.map_congr_left fun x _ => tags_sealed ts o d x
    cases v with
    | agg cs => simp only [viewTags]; rw [ih]
    | tup cs => simp only [viewTags]; rw [ih]
    | fn f x y => simp only [viewTags]; rw [ih, ih]
    | ref k g off n =>
      simp only [viewTags]
      rw [aRow_sealed]
      cases aRow o k g with
      | none => rfl
      | some r =>
        simp only [Option.map_some]
        by_cases h : ts.contains k = true
        · simp only [h, if_true]; rw [ih]
        · simp only [h, Bool.false_eq_true, if_false]; rw [ih]
    | ptr k g off =>
      simp only [viewTags]
      rw [aRow_sealed]
      cases aRow o k g with
      | none => rfl
      | some r =>
        simp only [Option.map_some]
        by_cases h : ts.contains k = true
        · simp only [h, if_true]; rw [ih]
        · simp only [h, Bool.false_eq_true, if_false]; rw [ih]
    | _ => rfl
end Go.Proofs.YtpmjpogcaglphaaDoor.A
/- A, part 35: footprints of guarded operations. -/
namespace Go.Proofs.YtpmjpogcaglphaaDoor.A
open Go
def fG (y : Option (Option Bool)) (want : Bool) (fp : FP) : FP := match y with
  | some (some b) => if b = want then fp else FP.none_
  | _ => FP.none_
@[go_sem] theorem ft_guard (E : Env) (st : Nat) (ops : Array Oper) (d op ty p af j want a H) : foot E st ops ⟨d, op, ty, p, af, some (j, want)⟩ a H = fG (yieldedA ops a j) want (foot E st ops ⟨d, op, ty, p, af, none⟩ a H) := by
  unfold fG
  cases hy : yieldedA ops a j with
  | none => unfold foot wantedA; simp only [hy, Option.map_none]; rfl
  | some y =>
    cases y with
    | none => unfold foot wantedA; simp only [hy, Option.map_some]; rfl
    | some b =>
      unfold foot wantedA
      simp only [hy, Option.map_some]
      cases b <;> cases want <;> rfl
@[go_sem] theorem fG_none (w fp) : fG (some none) w fp = FP.none_ := rfl
@[go_sem] theorem fG_tt (fp) : fG (some (some true)) true fp = fp := rfl
@[go_sem] theorem fG_ft (fp) : fG (some (some false)) true fp = FP.none_ := rfl
@[go_sem] theorem fG_tf (fp) : fG (some (some true)) false fp = FP.none_ := rfl
@[go_sem] theorem fG_ff (fp) : fG (some (some false)) false fp = fp := rfl
@[go_sem] theorem fG_decide (p : Prop) [Decidable p] (w fp) : fG (some (some (decide p))) w fp = fG (some (some (if p then true else false))) w fp := by
  by_cases h : p <;> simp [h]
end Go.Proofs.YtpmjpogcaglphaaDoor.A
/- A word that tells two machines apart is no longer than the pairs are many. -/
namespace Go.Proofs.YtpmjpogcaglphaaDoor.A
open Go
set_option maxRecDepth 20000
theorem back_len {l : List Ent} (hb : BackL l) : ∀ (n k : Nat) (e : Ent), k < n → l[k]? = some e → e.w.length ≤ k
  | 0, k, _, hk, _ => by omega
  | n + 1, k, e, hk, he => by
    rcases hb.case he with ⟨_, a2⟩ | ⟨j, f, _, a2, a3, a4⟩
    · rw [a2]; exact Nat.zero_le _
    · have := back_len hb n j f (by omega) a3
      rw [a4, List.length_append]
      simp
      omega
theorem pFar_len {N A M B} (hA : OkD N A) (hB : OkD M B) : ∀ (r i : Nat) (l : List Ent) (c : Nat), QMid N A M B i l c → (∀ e, l[i]? = some e → QMid N A M B i l (5 * codeW e.w + 1)) → ∀ w, pFar N A M B r i l = some (some w) → w.length ≤ A.length * B.length
  | 0, i, l, c, _, _, w, h => by cases h
  | r + 1, i, l, c, hq, hqn, w, h => by
    obtain ⟨r', hr, hs⟩ := pFar_step h
    have hr : r = r' := by omega
    subst hr
    rcases hs with ⟨_, hres⟩ | ⟨e, he, hs⟩
    · cases hres
    · have hQ := hqn e he
      rcases hs with ⟨hab, hp⟩ | ⟨_, hres⟩
      · have hR := pRow_ok hQ he hab 5 (Nat.le_refl _)
        exact pFar_len hA hB r (i + 1) _ _ hR.done hR.next w hp
      · injection hres with hres
        subst hres
        have h1 := back_len hQ.backL (i + 1) i e (by omega) he
        have h2 := (hQ.few hA hB).1
        have h3 := (List.getElem?_eq_some_iff.1 he).1
        omega
theorem far_len {N A M B} (hA : OkD N A) (hB : OkD M B) {w : List Nat} (h : farM N A M B = some w) : w.length ≤ A.length * B.length := by
  have h1 := (far_ok hA hB).1
  rw [h] at h1
  exact pFar_len hA hB _ 0 [ent0] 1 (QMid.start N A M B) (fun e he => by
    injection he with he
    subst he
    exact QMid.start N A M B) w h1
end Go.Proofs.YtpmjpogcaglphaaDoor.A
/- law7.Make on the caller's memory; MiniApart: a word that tells two machines apart, the document's own. -/
namespace Go.Proofs.YtpmjpogcaglphaaDoor.A
open Go
set_option maxRecDepth 20000
def md7 (f : FuncId) : Mode := if f = 15 then .raw false else md0 f
theorem md7_make : md7 15 = .raw false := rfl
theorem md7_law8_known : md7 14 = md0 14 := rfl
theorem md7_law8_within : md7 30 = md0 30 := rfl
theorem md7_mini_Apart : md7 33 = md0 33 := rfl
theorem md7_ref8_Apart : md7 26 = md0 26 := rfl
theorem md7_ref1_Ints : md7 35 = md0 35 := rfl
theorem md7_ref7_Run : md7 32 = md0 32 := rfl
theorem md7_mini_Minimize : md7 16 = md0 16 := rfl
theorem md7_mini_Same : md7 27 = md0 27 := rfl
theorem md7_ref7_Same : md7 17 = md0 17 := rfl
noncomputable def crM7 : CallR := tabLookR [(15, fun args H => if args.length = 3 then runP (EX md0 XW7) noR 20 nz7 Tryd.f15 args H else none)]
theorem crM7_ok : CRSound Tryd.prog crM7 ∧ Up crM7 := by
  refine tabR_cons (tabR_nil _) fun args H v H' h => ?_
  split at h
  · rename_i hn
    exact okR_run (E := EX md0 XW7) XW7_ok (noR_ok Tryd.prog).1 (noR_ok Tryd.prog).2 mixed Tryd.func15 (by rw [hn]; exact look7M XW7) h
  · cases h
theorem make7_call {o : Ob} {nx : Nat} {K : AV × AH → Prop} (size : Int) (ns : List Int) (acc : Int)
    (h : ∀ vN vA o' nx', Made7 o nx (size7 size) ns acc (size7 size) vN vA o' nx' → K (.agg [vN, vA], ⟨o', nx'⟩)) :
    wO (Option.map (fun p => freezeR false p.1 p.2) (crM7 15 [.int .i64 size, slI ns, .int .i64 acc] ⟨o, nx⟩)) K := by
  have hw := make7_wp noR size ns acc o nx
  have hb : Tryd.f15.body = some (Tryd.f15.body.getD .skip) := rfl
  unfold WP at hw
  have e : crM7 15 [.int .i64 size, slI ns, .int .i64 acc] ⟨o, nx⟩ = runP (EX md0 XW7) noR 20 nz7 Tryd.f15 [.int .i64 size, slI ns, .int .i64 acc] ⟨o, nx⟩ := rfl
  rw [e]
  unfold runP
  rw [hb]
  dsimp only
  cases he : evalP (EX md0 XW7) (fun _ _ => none) noR 20 nz7 none (Tryd.f15.body.getD .skip) (begin_ [.int .i64 size, slI ns, .int .i64 acc]) ⟨o, nx⟩ with
  | none => rw [he] at hw; exact hw.elim
  | some p =>
    obtain ⟨u, a, H⟩ := p
    rw [he] at hw
    obtain ⟨rfl, vN, vA, hM, h6, ho6⟩ := hw
    have hr : resultsL (EX md0 XW7).P a H Tryd.f15.results.toList = some [.agg [vN, vA]] := by
      obtain ⟨Ho, Hn⟩ := H
      dsimp only at ho6
      simp only [Tryd.f15]
      simp (disch := omega) only [go_sem, ↓IntWalk.iteOmega, IntWalk.toNatUp, Nat.reduceEqDiff, Nat.reduceAdd, Nat.reduceMul, Nat.reduceSub, Nat.reduceLT, Nat.reduceLeDiff, Int.reduceToNat, Int.reduceLT, Int.reduceLE, Int.reduceEq, Int.reduceAdd, Int.reduceSub, Int.reduceMul, Int.toNat_natCast, reduceCtorEq, decide_true, decide_false, IntWalk.i64_in, IntWalk.u64_in, IntWalk.u8_in, h6, ho6]
    dsimp only
    rw [hr]
    exact h vN vA H.o H.nx hM
/-! ### rows held against each other -/
theorem lookInts (X) : lookedAt (EX md0 X) (fun _ => none) 2 Tryd.f35 = true := by kernel_rfl
theorem ints_ok (x y : List Int) (hx : x.length ≤ 1000000) : Ok Tryd.prog 35 [slI x, slI y] (.bool (decide (x = y))) := by
  refine ok_of_WP (E := EX md0 (fun _ _ => none)) (cr := noR) (tab_nil _) (noR_ok _) mixed (k := x.length + 1) Tryd.func35 (lookInts _) rfl ?_
  simp only [Tryd.f35, Option.getD_some]
  by_cases hl : x.length = y.length
  · simp (disch := omega) only [go_sem, ↓IntWalk.iteOmega, IntWalk.toNatUp, Nat.reduceEqDiff, Nat.reduceAdd, Nat.reduceMul, Nat.reduceSub, Nat.reduceLT, Nat.reduceLeDiff, Int.reduceToNat, Int.reduceLT, Int.reduceLE, Int.reduceEq, Int.reduceAdd, Int.reduceSub, Int.reduceMul, Int.toNat_natCast, reduceCtorEq, decide_true, decide_false, IntWalk.i64_in, IntWalk.u64_in, IntWalk.u8_in]
    refine WP_loop (fun m a o nx => ∃ i, i ≤ x.length ∧ m = x.length - i ∧ a 0 = slI x ∧ a 1 = slI y ∧ a 5 = .int .i64 i ∧ x.take i = y.take i) x.length ?_ ?_ ?_
    · omega
    · refine ⟨0, by omega, by omega, ?_⟩
      simp (disch := omega) only [go_sem, ↓IntWalk.iteOmega, IntWalk.toNatUp, Nat.reduceEqDiff, Nat.reduceAdd, Nat.reduceMul, Nat.reduceSub, Nat.reduceLT, Nat.reduceLeDiff, Int.reduceToNat, Int.reduceLT, Int.reduceLE, Int.reduceEq, Int.reduceAdd, Int.reduceSub, Int.reduceMul, Int.toNat_natCast, reduceCtorEq, decide_true, decide_false, IntWalk.i64_in, IntWalk.u64_in, IntWalk.u8_in, List.take_zero]
    · rintro m a o nx ⟨i, hi, rfl, h0, h1, h5, hp⟩
      by_cases hlt : i < x.length
      · have hgx := cI_get (s := 1) hlt
        have hgy := cI_get (s := 1) (show i < y.length by omega)
        have hkx := take_succ_getD hlt 0
        have hky := take_succ_getD (show i < y.length by omega) 0
        by_cases he : x.getD i 0 = y.getD i 0
        · simp (disch := omega) only [go_sem, ↓IntWalk.iteOmega, IntWalk.toNatUp, Nat.reduceEqDiff, Nat.reduceAdd, Nat.reduceMul, Nat.reduceSub, Nat.reduceLT, Nat.reduceLeDiff, Int.reduceToNat, Int.reduceLT, Int.reduceLE, Int.reduceEq, Int.reduceAdd, Int.reduceSub, Int.reduceMul, Int.toNat_natCast, reduceCtorEq, decide_true, decide_false, IntWalk.i64_in, IntWalk.u64_in, IntWalk.u8_in, h0, h1, h5, hgx, hgy, he]
          exact ⟨_, by omega, i + 1, by omega, rfl, rfl, by rw [hkx, hky, hp, he]⟩
        · have hne : ¬ x = y := fun h => he (by rw [h])
          simp (disch := omega) only [go_sem, ↓IntWalk.iteOmega, IntWalk.toNatUp, Nat.reduceEqDiff, Nat.reduceAdd, Nat.reduceMul, Nat.reduceSub, Nat.reduceLT, Nat.reduceLeDiff, Int.reduceToNat, Int.reduceLT, Int.reduceLE, Int.reduceEq, Int.reduceAdd, Int.reduceSub, Int.reduceMul, Int.toNat_natCast, reduceCtorEq, decide_true, decide_false, IntWalk.i64_in, IntWalk.u64_in, IntWalk.u8_in, h0, h1, h5, hgx, hgy, he, hne]
      · have hie : i = x.length := by omega
        rw [hie, List.take_length, hl, List.take_length] at hp
        simp (disch := omega) only [go_sem, ↓IntWalk.iteOmega, IntWalk.toNatUp, Nat.reduceEqDiff, Nat.reduceAdd, Nat.reduceMul, Nat.reduceSub, Nat.reduceLT, Nat.reduceLeDiff, Int.reduceToNat, Int.reduceLT, Int.reduceLE, Int.reduceEq, Int.reduceAdd, Int.reduceSub, Int.reduceMul, Int.toNat_natCast, reduceCtorEq, decide_true, decide_false, IntWalk.i64_in, IntWalk.u64_in, IntWalk.u8_in, h0, h1, h5, hp]
  · have hne : ¬ x = y := fun h => hl (by rw [h])
    have hl' : ¬ (x.length : Int) = y.length := by omega
    simp (disch := omega) only [go_sem, ↓IntWalk.iteOmega, IntWalk.toNatUp, Nat.reduceEqDiff, Nat.reduceAdd, Nat.reduceMul, Nat.reduceSub, Nat.reduceLT, Nat.reduceLeDiff, Int.reduceToNat, Int.reduceLT, Int.reduceLE, Int.reduceEq, Int.reduceAdd, Int.reduceSub, Int.reduceMul, Int.toNat_natCast, reduceCtorEq, decide_true, decide_false, IntWalk.i64_in, IntWalk.u64_in, IntWalk.u8_in, hne]
def RInts (args : List AV) (r : AV) : Prop := ∃ x y : List Int, x.length ≤ 1000000 ∧ args = [slI x, slI y] ∧ r = .bool (decide (x = y))
theorem RInts_fn : Fun1 RInts := by
  rintro args r r' ⟨a, b, _, rfl, rfl⟩ ⟨a', b', _, h, rfl⟩
  simp only [List.cons.injEq, AV.sl.injEq, and_true] at h
  rw [cI_inj h.1.2, cI_inj h.2.2]
theorem RInts_ok (args r) (h : RInts args r) : Ok Tryd.prog 35 args r := by obtain ⟨a, b, h, rfl, rfl⟩ := h; exact ints_ok a b h
noncomputable def XM3 : FuncId → List AV → Option AV := tabLook [(14, tRel RKn8), (16, tRel RMin), (27, tRel RSa), (17, tRel RSa), (32, tRel RRn), (30, tRel RW), (33, tRel RFar), (26, tRel RFar), (35, tRel RInts)]
theorem XM3_ok : CPSound Tryd.prog XM3 := tab_cons (tab_cons (tab_cons (tab_cons (tab_cons (tab_cons (tab_cons (tab_cons (tab_cons (tab_nil _) (tRel_ok RInts_ok)) (tRel_ok RFar_ref)) (tRel_ok RFar_mini)) (tRel_ok within4_ok)) (tRel_ok RRn_ok)) (tRel_ok RSa_ref)) (tRel_ok RSa_mini)) (tRel_ok RMin_mini)) (tRel_ok RKn8_ok)
theorem XM3_known : XM3 14 [] = some (.bool true) := tRel_eq (R := RKn8) RKn8_fn ⟨rfl, rfl⟩
theorem XM3_min {n N A} (h : WfD n N A) : XM3 16 [dV n N A] = some (dV (minA N A).length (minN N A) (minA N A)) := XM1_min h
theorem XM3_same {n N A k M B} (h : WfD n N A) (h' : WfD k M B) : XM3 27 [dV n N A, dV k M B] = some (.bool (decide (A = B ∧ N = M))) := XM1_same h h'
theorem XM3_rsame {n N A k M B} (h : WfD n N A) (h' : WfD k M B) : XM3 17 [dV n N A, dV k M B] = some (.bool (decide (A = B ∧ N = M))) := XM1_rsame h h'
theorem XM3_run {n N A} (h : WfD n N A) (w : List Int) (hl : w.length ≤ 1000000) : XM3 32 [dV n N A, slI w] = some (.bool (runD n N A w)) := XM1_run h w hl
theorem XM3_within (a n : Int) (h1 : 0 < n) (h2 : n ≤ 1000000) : XM3 30 [.int .i64 a, .int .i64 n] = some (.int .i64 (a % n)) := XM1_within a n h1 h2
theorem XM3_far {n N A k M B} (h : WfD n N A) (h' : WfD k M B) : XM3 33 [dV n N A, dV k M B] = some (apV (farM N A M B)) := XM1_far h h'
theorem XM3_rfar {n N A k M B} (h : WfD n N A) (h' : WfD k M B) : XM3 26 [dV n N A, dV k M B] = some (apV (farM N A M B)) := XM1_rfar h h'
theorem XM3_ints (x y : List Int) (h : x.length ≤ 1000000) : XM3 35 [slI x, slI y] = some (.bool (decide (x = y))) := tRel_eq (R := RInts) RInts_fn ⟨_, _, h, rfl, rfl⟩
def nzAq : Nat → Option (List (Nat × Nat))
  | 11 => some [(1, 2)]
  | _ => none
theorem lookAq : lookedAt (EX md7 XM3) nzAq 4 Tryd.f10 = true := by kernel_rfl
theorem wf_set {n N A} (h : WfD n N A) (i : Nat) (b : Bool) : WfD n N (A.set i b) := ⟨h.sz, h.l, by rw [List.length_set]; exact h.a, h.e⟩
/-- What the law holds, of any two machines. -/
structure ApF (n : Nat) (N : List Int) (A : List Bool) (k : Nat) (M : List Int) (B : List Bool) (w : AV) (is : Bool) (m1 m2 : AV) (z1 z2 eq : Bool) : Prop where
  f1 : XM3 33 [dV n N A, dV k M B] = some (.tup [w, .bool is])
  f2 : XM3 26 [dV n N A, dV k M B] = some (.tup [w, .bool is])
  i : XM3 35 [w, w] = some (.bool true)
  r1 : XM3 32 [dV n N A, w] = some (.bool z1)
  r2 : XM3 32 [dV k M B, w] = some (.bool z2)
  ne : is = true → (z1 == z2) = false
  mi1 : XM3 16 [dV n N A] = some m1
  mi2 : XM3 16 [dV k M B] = some m2
  s : XM3 27 [m1, m2] = some (.bool !is)
  s1 : XM3 27 [dV n N A, dV k M B] = some (.bool eq)
  s2 : XM3 17 [dV n N A, dV k M B] = some (.bool eq)
theorem apF {n N A k M B} (hw : WfD n N A) (hw' : WfD k M B) (hn : n ≤ 9) (hk : k ≤ 9) : ∃ (w : List Nat) (is : Bool) (z1 z2 eq : Bool), ApF n N A k M B (slI (nL w)) is (dV (minA N A).length (minN N A) (minA N A)) (dV (minA M B).length (minN M B) (minA M B)) z1 z2 eq := by
  have hfar := (far_ok hw.okD hw'.okD).2
  have xf := XM3_far hw hw'
  have xg := XM3_rfar hw hw'
  have hs := XM3_same (min_wf hw) (min_wf hw')
  cases hf : farM N A M B with
  | none =>
    rw [hf] at xf xg hfar
    obtain ⟨e1, e2⟩ := min_one hw.okD hw'.okD hfar
    rw [decide_eq_true ⟨e2, e1⟩] at hs
    exact ⟨[], false, _, _, _, xf, xg, XM3_ints [] [] (by simp), XM3_run hw _ (by simp [nL]), XM3_run hw' _ (by simp [nL]), (fun e => by cases e), XM3_min hw, XM3_min hw', hs, XM3_same hw hw', XM3_rsame hw hw'⟩
  | some w =>
    rw [hf] at xf xg hfar
    obtain ⟨hwg, hdf, _⟩ := hfar
    have hwl := far_len hw.okD hw'.okD hf
    rw [hw.a, hw'.a] at hwl
    have hwl2 : (nL w).length ≤ 1000 := by
      rw [nL_len]
      exact Nat.le_trans hwl (Nat.le_trans (Nat.mul_le_mul hn hk) (by omega))
    have hne : ¬ (minA N A = minA M B ∧ minN N A = minN M B) := fun ⟨e1, e2⟩ => by
      have g1 := min_eqv hw.okD
      have g2 := min_eqv hw'.okD
      rw [e1, e2] at g1
      exact hdf (g1.trans g2.symm w hwg)
    rw [decide_eq_false hne] at hs
    refine ⟨w, true, _, _, _, xf, xg, ?_, XM3_run hw _ (by omega), XM3_run hw' _ (by omega), (fun _ => ?_), XM3_min hw, XM3_min hw', hs, XM3_same hw hw', XM3_rsame hw hw'⟩
    · rw [XM3_ints _ _ (by omega), decide_eq_true rfl]
    · refine beq_false_of_ne ?_
      rw [show nL w = w.map fun m : Nat => (m : Int) from rfl, run_nat hw hwg, run_nat hw' hwg]
      exact hdf
end Go.Proofs.YtpmjpogcaglphaaDoor.A
namespace Go.Proofs.YtpmjpogcaglphaaDoor.A
open Go
set_option maxRecDepth 20000
set_option maxHeartbeats 8000000 in
theorem mapt_ok (size : Int) (ns : List Int) (acc : Int) (other : Int) (ms : List Int) (bcc : Int) (near : Bool) : Ok Tryd.prog 10 [.int .i64 size, slI ns, .int .i64 acc, .int .i64 other, slI ms, .int .i64 bcc, .bool near] (.bool true) := by
  refine ok_of_WP (E := EX md7 XM3) (cr := crM7) XM3_ok crM7_ok mixed (k := 12) Tryd.func10 lookAq rfl ?_
  have hkn := XM3_known
  have hw := wf7 size ns acc
  have hw' := wf7 other ms bcc
  have hn := size7_in size
  have hk := size7_in other
  simp only [Tryd.f10, Option.getD_some]
  simp (disch := omega) only [go_sem, ↓IntWalk.iteOmega, IntWalk.toNatUp, Nat.reduceEqDiff, Nat.reduceAdd, Nat.reduceMul, Nat.reduceSub, Nat.reduceLT, Nat.reduceLeDiff, Int.reduceToNat, Int.reduceLT, Int.reduceLE, Int.reduceEq, Int.reduceAdd, Int.reduceSub, Int.reduceMul, Int.toNat_natCast, reduceCtorEq, decide_true, decide_false, IntWalk.i64_in, IntWalk.u64_in, IntWalk.u8_in, hkn, md7_make, md7_law8_known, nzAq]
  refine make7_call _ _ _ fun vN vA o1 nx1 hM => ?_
  have h1 := hM.n.ok
  have h2 := hM.a.ok
  have h3 := hM.le
  simp (disch := omega) only [go_sem, ↓IntWalk.iteOmega, IntWalk.toNatUp, Nat.reduceEqDiff, Nat.reduceAdd, Nat.reduceMul, Nat.reduceSub, Nat.reduceLT, Nat.reduceLeDiff, Int.reduceToNat, Int.reduceLT, Int.reduceLE, Int.reduceEq, Int.reduceAdd, Int.reduceSub, Int.reduceMul, Int.toNat_natCast, reduceCtorEq, decide_true, decide_false, IntWalk.i64_in, IntWalk.u64_in, IntWalk.u8_in, h1, h2, md7_make, nzAq]
  refine make7_call _ _ _ fun vM vB o2 nx2 hM' => ?_
  have h1' := hM'.n.ok
  have h2' := hM'.a.ok
  have h3' := hM'.le
  have hk2 := hM'.keep
  have hN := hM.n.keep (o' := o2) (fun i hi => hk2 i 54 hi) hM'.le
  have hA := hM.a.keep (o' := o2) (fun i hi => hk2 i 65 hi) hM'.le
  have hM2 := hM'.n
  have hB := hM'.a
  clear hM hM'
  generalize hsz : size7 size = n at *
  generalize size7 other = k at *
  generalize hNN : next7 n ns acc n = N at *
  generalize hAA : accs7 acc n = A at *
  generalize next7 k ms bcc k = M at *
  generalize accs7 bcc k = B at *
  cases near with
  | false =>
    simp (disch := omega) only [go_sem, ↓IntWalk.iteOmega, IntWalk.toNatUp, Nat.reduceEqDiff, Nat.reduceAdd, Nat.reduceMul, Nat.reduceSub, Nat.reduceLT, Nat.reduceLeDiff, Int.reduceToNat, Int.reduceLT, Int.reduceLE, Int.reduceEq, Int.reduceAdd, Int.reduceSub, Int.reduceMul, Int.toNat_natCast, reduceCtorEq, decide_true, decide_false, IntWalk.i64_in, IntWalk.u64_in, IntWalk.u8_in, h1, h2, h1', h2', nzAq]
    generalize ho : upd (upd (upd (upd o2 (2, 15) (.row ⟨27, 1, (2, 15), false, true, [.nil, .nil]⟩)) (2, 16) (.row ⟨27, 1, (2, 16), false, true, [.nil, .nil]⟩)) (2, 15) (.row ⟨27, 1, (2, 15), false, true, [vN, vA]⟩)) (2, 16) (.row ⟨27, 1, (2, 16), false, true, [vM, vB]⟩) = o
    have o15 : o (2, 15) = some (.row ⟨27, 1, (2, 15), false, true, [vN, vA]⟩) := by rw [← ho]; simp [upd_app]
    have o16 : o (2, 16) = some (.row ⟨27, 1, (2, 16), false, true, [vM, vB]⟩) := by rw [← ho]; simp [upd_app]
    have hN := hN.keep (o' := o) (fun i hi => by rw [← ho]; simp [upd_app]) (Nat.le_refl _)
    have hA := hA.keep (o' := o) (fun i hi => by rw [← ho]; simp [upd_app]) (Nat.le_refl _)
    have hM2 := hM2.keep (o' := o) (fun i hi => by rw [← ho]; simp [upd_app]) (Nat.le_refl _)
    have hB := hB.keep (o' := o) (fun i hi => by rw [← ho]; simp [upd_app]) (Nat.le_refl _)
    clear ho
    obtain ⟨w, is, z1, z2, eq, hF⟩ := apF hw hw' hn.2.1 hk.2.1
    obtain ⟨f1, f2, fi, r1, r2, ne, mi1, mi2, fs, s1, s2⟩ := hF
    obtain ⟨W, hW⟩ : ∃ W, W = slI (nL w) := ⟨_, rfl⟩
    have hvW : ∀ (o : Ob) (d : Nat), view o d W = W := fun o d => by rw [hW]; exact view_sl ..
    have htW : ∀ (o : Ob) (d : Nat), viewTags o d W = [] := fun o d => by rw [hW]; cases d <;> rfl
    rw [← hW] at f1 f2 fi r1 r2
    have v1 : ∀ o'' : Ob, (∀ i, o'' (i, 54) = o (i, 54)) → view o'' 1011 vN = .sl n (cI N) := fun o'' h => by rw [(hN.keep (fun i _ => h i) (Nat.le_refl _)).view 1010, view_cI]
    have v2 : ∀ o'' : Ob, (∀ i, o'' (i, 65) = o (i, 65)) → view o'' 1011 vA = .sl n (cB A) := fun o'' h => by rw [(hA.keep (fun i _ => h i) (Nat.le_refl _)).view 1010, view_cB]
    have v3 : ∀ o'' : Ob, (∀ i, o'' (i, 54) = o (i, 54)) → view o'' 1011 vM = .sl k (cI M) := fun o'' h => by rw [(hM2.keep (fun i _ => h i) (Nat.le_refl _)).view 1010, view_cI]
    have v4 : ∀ o'' : Ob, (∀ i, o'' (i, 65) = o (i, 65)) → view o'' 1011 vB = .sl k (cB B) := fun o'' h => by rw [(hB.keep (fun i _ => h i) (Nat.le_refl _)).view 1010, view_cB]
    have t1 := fun i j h => hN.nin 1010 (tags_cI o 1010 N) (i := i) (j := j) h
    have t2 := fun i j h => hA.nin 1010 (tags_cB o 1010 A) (i := i) (j := j) h
    have t3 := fun i j h => hM2.nin 1010 (tags_cI o 1010 M) (i := i) (j := j) h
    have t4 := fun i j h => hB.nin 1010 (tags_cB o 1010 B) (i := i) (j := j) h
    have t5 : ((viewTags o 1011 vN).all fun t => nin t [(2, 16)]) = true := List.all_eq_true.2 fun t ht => by
      have hj := hN.tags 1010 (tags_cI o 1010 _) t ht
      obtain ⟨p, q⟩ := t
      exact nin_slot (D := 16) (fun s hs => by rw [List.mem_singleton.1 hs]) (by dsimp only at hj; omega)
    have t6 : ((viewTags o 1011 vA).all fun t => nin t [(2, 16)]) = true := List.all_eq_true.2 fun t ht => by
      have hj := hA.tags 1010 (tags_cB o 1010 _) t ht
      obtain ⟨p, q⟩ := t
      exact nin_slot (D := 16) (fun s hs => by rw [List.mem_singleton.1 hs]) (by dsimp only at hj; omega)
    generalize minN N A = N1 at *
    generalize minA N A = A1 at *
    generalize minN M B = M1 at *
    generalize minA M B = B1 at *
    have hbe : ∀ b : Bool, (b == b) = true := fun b => beq_self_eq_true b
    cases is with
    | false =>
      simp (disch := first | omega | (intro _; simp (disch := omega) only [go_sem, ↓IntWalk.iteOmega, IntWalk.toNatUp, Nat.reduceEqDiff, Nat.reduceAdd, Nat.reduceMul, Nat.reduceSub, Nat.reduceLT, Nat.reduceLeDiff, Int.reduceToNat, Int.reduceLT, Int.reduceLE, Int.reduceEq, Int.reduceAdd, Int.reduceSub, Int.reduceMul, Int.toNat_natCast, reduceCtorEq, decide_true, decide_false, IntWalk.i64_in, IntWalk.u64_in, IntWalk.u8_in, o15, o16, f1, f2, fi, r1, r2, mi1, mi2, fs, s1, s2, v1, v2, v3, v4, t1, t2, t3, t4, t5, t6, hvW, htW, hbe, md7_mini_Apart, md7_ref8_Apart, md7_ref1_Ints, md7_ref7_Run, md7_mini_Minimize, md7_mini_Same, md7_ref7_Same, view_sealed, tags_sealed, nin_app, nzAq, Bool.and_true, Bool.not_false, Bool.not_true, List.append_nil])) only [go_sem, ↓IntWalk.iteOmega, IntWalk.toNatUp, Nat.reduceEqDiff, Nat.reduceAdd, Nat.reduceMul, Nat.reduceSub, Nat.reduceLT, Nat.reduceLeDiff, Int.reduceToNat, Int.reduceLT, Int.reduceLE, Int.reduceEq, Int.reduceAdd, Int.reduceSub, Int.reduceMul, Int.toNat_natCast, reduceCtorEq, decide_true, decide_false, IntWalk.i64_in, IntWalk.u64_in, IntWalk.u8_in, o15, o16, f1, f2, fi, r1, r2, mi1, mi2, fs, s1, s2, v1, v2, v3, v4, t1, t2, t3, t4, t5, t6, hvW, htW, hbe, md7_mini_Apart, md7_ref8_Apart, md7_ref1_Ints, md7_ref7_Run, md7_mini_Minimize, md7_mini_Same, md7_ref7_Same, view_sealed, tags_sealed, nin_app, nzAq, Bool.and_true, Bool.not_false, Bool.not_true, List.append_nil]
    | true =>
      have hne := ne rfl
      simp (disch := first | omega | (intro _; simp (disch := omega) only [go_sem, ↓IntWalk.iteOmega, IntWalk.toNatUp, Nat.reduceEqDiff, Nat.reduceAdd, Nat.reduceMul, Nat.reduceSub, Nat.reduceLT, Nat.reduceLeDiff, Int.reduceToNat, Int.reduceLT, Int.reduceLE, Int.reduceEq, Int.reduceAdd, Int.reduceSub, Int.reduceMul, Int.toNat_natCast, reduceCtorEq, decide_true, decide_false, IntWalk.i64_in, IntWalk.u64_in, IntWalk.u8_in, o15, o16, f1, f2, fi, r1, r2, mi1, mi2, fs, s1, s2, v1, v2, v3, v4, t1, t2, t3, t4, t5, t6, hvW, htW, hbe, md7_mini_Apart, md7_ref8_Apart, md7_ref1_Ints, md7_ref7_Run, md7_mini_Minimize, md7_mini_Same, md7_ref7_Same, view_sealed, tags_sealed, nin_app, nzAq, Bool.and_true, Bool.not_false, Bool.not_true, List.append_nil, hne])) only [go_sem, ↓IntWalk.iteOmega, IntWalk.toNatUp, Nat.reduceEqDiff, Nat.reduceAdd, Nat.reduceMul, Nat.reduceSub, Nat.reduceLT, Nat.reduceLeDiff, Int.reduceToNat, Int.reduceLT, Int.reduceLE, Int.reduceEq, Int.reduceAdd, Int.reduceSub, Int.reduceMul, Int.toNat_natCast, reduceCtorEq, decide_true, decide_false, IntWalk.i64_in, IntWalk.u64_in, IntWalk.u8_in, o15, o16, f1, f2, fi, r1, r2, mi1, mi2, fs, s1, s2, v1, v2, v3, v4, t1, t2, t3, t4, t5, t6, hvW, htW, hbe, md7_mini_Apart, md7_ref8_Apart, md7_ref1_Ints, md7_ref7_Run, md7_mini_Minimize, md7_mini_Same, md7_ref7_Same, view_sealed, tags_sealed, nin_app, nzAq, Bool.and_true, Bool.not_false, Bool.not_true, List.append_nil, hne]
  | true =>
    simp (disch := omega) only [go_sem, ↓IntWalk.iteOmega, IntWalk.toNatUp, Nat.reduceEqDiff, Nat.reduceAdd, Nat.reduceMul, Nat.reduceSub, Nat.reduceLT, Nat.reduceLeDiff, Int.reduceToNat, Int.reduceLT, Int.reduceLE, Int.reduceEq, Int.reduceAdd, Int.reduceSub, Int.reduceMul, Int.toNat_natCast, reduceCtorEq, decide_true, decide_false, IntWalk.i64_in, IntWalk.u64_in, IntWalk.u8_in, h1, h2, h1', h2', md7_make, nzAq]
    refine make7_call _ _ _ fun vM vB o3 nx3 hM => ?_
    have hM2 := hM.n
    have hB := hM.a
    have hk3 := hM.keep
    have hle := hM.le
    have hlb := hM.la
    rw [hsz, hNN] at hM2
    rw [hsz, hAA] at hB
    have h1'' := hM2.ok
    have h2'' := hB.ok
    rcases hB with ⟨_, e2, _⟩ | ⟨i2, g2, rfl, hi2, rowB, lenB⟩
    · omega
    have hi2' := hlb i2 _ _ rfl
    have k15 := hk3 2 15 (by omega)
    have k16 := hk3 2 16 (by omega)
    simp only [upd_app, if_true, Nat.reduceEqDiff, if_false, Prod.mk.injEq, and_false, and_true] at k15 k16
    have w1 := XM3_within bcc n (by omega) (by omega)
    have w2 := XM3_within other 2 (by omega) (by omega)
    have p0 := Int.emod_nonneg bcc (show (n : Int) ≠ 0 by omega)
    have p1 := Int.emod_lt_of_pos bcc (show (0 : Int) < n by omega)
    obtain ⟨q, hq⟩ : ∃ q : Nat, bcc % n = q := ⟨(bcc % n).toNat, by omega⟩
    rw [hq] at w1 p0 p1
    have hAl := hw.a
    have hcs := fun x => cB_set A q x (by omega)
    simp (disch := first | omega | (intro _; simp only [upd_app, Nat.reduceEqDiff, if_false])) only [go_sem, ↓IntWalk.iteOmega, IntWalk.toNatUp, Nat.reduceEqDiff, Nat.reduceAdd, Nat.reduceMul, Nat.reduceSub, Nat.reduceLT, Nat.reduceLeDiff, Int.reduceToNat, Int.reduceLT, Int.reduceLE, Int.reduceEq, Int.reduceAdd, Int.reduceSub, Int.reduceMul, Int.toNat_natCast, reduceCtorEq, decide_true, decide_false, IntWalk.i64_in, IntWalk.u64_in, IntWalk.u8_in, h1, h2, h1'', h2'', w1, w2, k15, k16, rowB, lenB, hcs, md7_law8_within, nzAq]
    have hw2 := wf_set hw q (decide (other % 2 = 0))
    have hlen2 : (A.set q (decide (other % 2 = 0))).length = n := by rw [List.length_set]; exact hAl
    generalize hA2 : A.set q (decide (other % 2 = 0)) = A2 at *
    generalize ho : upd (upd o3 (2, 16) (.row ⟨27, 1, (2, 16), false, true, [vM, .ref (i2, 65) g2 0 n]⟩)) (i2, 65) (.row ⟨4, 1, g2, false, true, cB A2⟩) = o
    have o15 : o (2, 15) = some (.row ⟨27, 1, (2, 15), false, true, [vN, vA]⟩) := by rw [← ho]; simpa [upd_app] using k15
    have o16 : o (2, 16) = some (.row ⟨27, 1, (2, 16), false, true, [vM, .ref (i2, 65) g2 0 n]⟩) := by rw [← ho]; simp [upd_app]
    have hN := hN.keep (o' := o) (fun i hi => by
      rw [← ho]
      simp only [upd_app, Prod.mk.injEq]
      rw [if_neg (by omega), if_neg (by omega), hk3 i 54 (by omega)]
      simp [upd_app]) (Nat.le_refl _)
    have hA := hA.keep (o' := o) (fun i hi => by
      rw [← ho]
      rw [upd_app, if_pos rfl, if_neg (by omega), upd_app, if_neg (by omega), hk3 i 65 (by omega)]
      simp [upd_app]) (Nat.le_refl _)
    have hM2 := hM2.keep (o' := o) (fun i hi => by rw [← ho]; simp [upd_app]) (Nat.le_refl _)
    have hB : HS 4 1 65 o nx3 (.ref (i2, 65) g2 0 n) n (cB A2) := HS.of hi2 (by rw [← ho]; simp [upd_app]) (by rw [cB_length, hlen2, Nat.mul_one])
    obtain ⟨vB', hvB⟩ : ∃ v, v = AV.ref (i2, 65) g2 0 n := ⟨_, rfl⟩
    rw [← hvB] at hB o16
    simp only [← hvB]
    clear ho
    obtain ⟨w, is, z1, z2, eq, hF⟩ := apF hw hw2 hn.2.1 hn.2.1
    obtain ⟨f1, f2, fi, r1, r2, ne, mi1, mi2, fs, s1, s2⟩ := hF
    obtain ⟨W, hW⟩ : ∃ W, W = slI (nL w) := ⟨_, rfl⟩
    have hvW : ∀ (o : Ob) (d : Nat), view o d W = W := fun o d => by rw [hW]; exact view_sl ..
    have htW : ∀ (o : Ob) (d : Nat), viewTags o d W = [] := fun o d => by rw [hW]; cases d <;> rfl
    rw [← hW] at f1 f2 fi r1 r2
    have v1 : ∀ o'' : Ob, (∀ i, o'' (i, 54) = o (i, 54)) → view o'' 1011 vN = .sl n (cI N) := fun o'' h => by rw [(hN.keep (fun i _ => h i) (Nat.le_refl _)).view 1010, view_cI]
    have v2 : ∀ o'' : Ob, (∀ i, o'' (i, 65) = o (i, 65)) → view o'' 1011 vA = .sl n (cB A) := fun o'' h => by rw [(hA.keep (fun i _ => h i) (Nat.le_refl _)).view 1010, view_cB]
    have v3 : ∀ o'' : Ob, (∀ i, o'' (i, 54) = o (i, 54)) → view o'' 1011 vM = .sl n (cI N) := fun o'' h => by rw [(hM2.keep (fun i _ => h i) (Nat.le_refl _)).view 1010, view_cI]
    have v4 : ∀ o'' : Ob, (∀ i, o'' (i, 65) = o (i, 65)) → view o'' 1011 vB' = .sl n (cB A2) := fun o'' h => by rw [(hB.keep (fun i _ => h i) (Nat.le_refl _)).view 1010, view_cB]
    have t1 := fun i j h => hN.nin 1010 (tags_cI o 1010 N) (i := i) (j := j) h
    have t2 := fun i j h => hA.nin 1010 (tags_cB o 1010 A) (i := i) (j := j) h
    have t3 := fun i j h => hM2.nin 1010 (tags_cI o 1010 N) (i := i) (j := j) h
    have t4 := fun i j h => hB.nin 1010 (tags_cB o 1010 A2) (i := i) (j := j) h
    have t5 : ((viewTags o 1011 vN).all fun t => nin t [(2, 16)]) = true := List.all_eq_true.2 fun t ht => by
      have hj := hN.tags 1010 (tags_cI o 1010 _) t ht
      obtain ⟨p, q⟩ := t
      exact nin_slot (D := 16) (fun s hs => by rw [List.mem_singleton.1 hs]) (by dsimp only at hj; omega)
    have t6 : ((viewTags o 1011 vA).all fun t => nin t [(2, 16)]) = true := List.all_eq_true.2 fun t ht => by
      have hj := hA.tags 1010 (tags_cB o 1010 _) t ht
      obtain ⟨p, q⟩ := t
      exact nin_slot (D := 16) (fun s hs => by rw [List.mem_singleton.1 hs]) (by dsimp only at hj; omega)
    generalize minN N A = N1 at *
    generalize minA N A = A1 at *
    generalize minN N A2 = M1 at *
    generalize minA N A2 = B1 at *
    have hbe : ∀ b : Bool, (b == b) = true := fun b => beq_self_eq_true b
    cases is with
    | false =>
      simp (disch := first | omega | (intro _; simp (disch := omega) only [go_sem, ↓IntWalk.iteOmega, IntWalk.toNatUp, Nat.reduceEqDiff, Nat.reduceAdd, Nat.reduceMul, Nat.reduceSub, Nat.reduceLT, Nat.reduceLeDiff, Int.reduceToNat, Int.reduceLT, Int.reduceLE, Int.reduceEq, Int.reduceAdd, Int.reduceSub, Int.reduceMul, Int.toNat_natCast, reduceCtorEq, decide_true, decide_false, IntWalk.i64_in, IntWalk.u64_in, IntWalk.u8_in, o15, o16, f1, f2, fi, r1, r2, mi1, mi2, fs, s1, s2, v1, v2, v3, v4, t1, t2, t3, t4, t5, t6, hvW, htW, hbe, md7_mini_Apart, md7_ref8_Apart, md7_ref1_Ints, md7_ref7_Run, md7_mini_Minimize, md7_mini_Same, md7_ref7_Same, view_sealed, tags_sealed, nin_app, nzAq, Bool.and_true, Bool.not_false, Bool.not_true, List.append_nil])) only [go_sem, ↓IntWalk.iteOmega, IntWalk.toNatUp, Nat.reduceEqDiff, Nat.reduceAdd, Nat.reduceMul, Nat.reduceSub, Nat.reduceLT, Nat.reduceLeDiff, Int.reduceToNat, Int.reduceLT, Int.reduceLE, Int.reduceEq, Int.reduceAdd, Int.reduceSub, Int.reduceMul, Int.toNat_natCast, reduceCtorEq, decide_true, decide_false, IntWalk.i64_in, IntWalk.u64_in, IntWalk.u8_in, o15, o16, f1, f2, fi, r1, r2, mi1, mi2, fs, s1, s2, v1, v2, v3, v4, t1, t2, t3, t4, t5, t6, hvW, htW, hbe, md7_mini_Apart, md7_ref8_Apart, md7_ref1_Ints, md7_ref7_Run, md7_mini_Minimize, md7_mini_Same, md7_ref7_Same, view_sealed, tags_sealed, nin_app, nzAq, Bool.and_true, Bool.not_false, Bool.not_true, List.append_nil]
    | true =>
      have hne := ne rfl
      simp (disch := first | omega | (intro _; simp (disch := omega) only [go_sem, ↓IntWalk.iteOmega, IntWalk.toNatUp, Nat.reduceEqDiff, Nat.reduceAdd, Nat.reduceMul, Nat.reduceSub, Nat.reduceLT, Nat.reduceLeDiff, Int.reduceToNat, Int.reduceLT, Int.reduceLE, Int.reduceEq, Int.reduceAdd, Int.reduceSub, Int.reduceMul, Int.toNat_natCast, reduceCtorEq, decide_true, decide_false, IntWalk.i64_in, IntWalk.u64_in, IntWalk.u8_in, o15, o16, f1, f2, fi, r1, r2, mi1, mi2, fs, s1, s2, v1, v2, v3, v4, t1, t2, t3, t4, t5, t6, hvW, htW, hbe, md7_mini_Apart, md7_ref8_Apart, md7_ref1_Ints, md7_ref7_Run, md7_mini_Minimize, md7_mini_Same, md7_ref7_Same, view_sealed, tags_sealed, nin_app, nzAq, Bool.and_true, Bool.not_false, Bool.not_true, List.append_nil, hne])) only [go_sem, ↓IntWalk.iteOmega, IntWalk.toNatUp, Nat.reduceEqDiff, Nat.reduceAdd, Nat.reduceMul, Nat.reduceSub, Nat.reduceLT, Nat.reduceLeDiff, Int.reduceToNat, Int.reduceLT, Int.reduceLE, Int.reduceEq, Int.reduceAdd, Int.reduceSub, Int.reduceMul, Int.toNat_natCast, reduceCtorEq, decide_true, decide_false, IntWalk.i64_in, IntWalk.u64_in, IntWalk.u8_in, o15, o16, f1, f2, fi, r1, r2, mi1, mi2, fs, s1, s2, v1, v2, v3, v4, t1, t2, t3, t4, t5, t6, hvW, htW, hbe, md7_mini_Apart, md7_ref8_Apart, md7_ref1_Ints, md7_ref7_Run, md7_mini_Minimize, md7_mini_Same, md7_ref7_Same, view_sealed, tags_sealed, nin_app, nzAq, Bool.and_true, Bool.not_false, Bool.not_true, List.append_nil, hne]
end Go.Proofs.YtpmjpogcaglphaaDoor.A

namespace Go.Proofs.YtpmjpogcaglphaaDoor
open Go Go.Proofs.YtpmjpogcaglphaaDoor.A
set_option maxRecDepth 100000 in
theorem miniApart_lifted (os : Os) (started : os.Started) (H : Type) (enc : TypeId × Value → H) :
    ReturnsInHanded {} Tryd.checked os 10 .any (fun w args => (Rows.miniApartSpec.pre enc Tryd.prog Tryd.f10 [] false w args ∧ laidMetH Tryd.prog laidL w) ∧ sizedMet enc Tryd.prog Tryd.f10 (OpenSpec.ofChange Rows.miniApartSpec) false w args) (Rows.miniApartSpec.post enc Tryd.prog Tryd.f10 false true false false) :=
  law_laid (C := Tryd.checked) (L := laidL) laidL_noh Tryd.own started (by kernel_rfl) Tryd.func10
    (ChangeSpec.witness_at (enc := enc) (C := Tryd.checked) (os := os) (X := fun w _ => laidMetH Tryd.prog laidL w) false (laidWorld os) #[.int .i64 0, .slice none 0 0, .int .i64 0, .int .i64 0, .slice none 0 0, .int .i64 0, .bool false] 8 rfl (by kernel_rfl) (by kernel_rfl) (by kernel_rfl) (by kernel_rfl) (by kernel_rfl) (laidWorld_met os _))
    Tryd.laidOut (ks := [3, 22, 4]) (by kernel_rfl) (by kernel_rfl) (tb := 4) (by kernel_rfl) (by kernel_rfl) rfl
    (fun ds hds => by
      match ds, hds with
      | [_, _, _, _, _, _, _], _ => exact ⟨rfl, rfl, rfl⟩)
    laid_gl (fun xs hxs => by
      rw [show Tryd.f10.params.toList = [3, 22, 3, 3, 22, 3, 4] from rfl] at hxs
      match xs, hxs with
      | [x1, x2, x3, x4, x5, x6, x7], ⟨h1, h2, h3, h4, h5, h6, h7, _⟩ =>
        obtain ⟨n1, rfl, _⟩ := arg_int (k := .i64) (by kernel_rfl) h1
        obtain ⟨n2, rfl, _⟩ := arg_ints (e := 3) (by kernel_rfl) (by kernel_rfl) h2
        obtain ⟨n3, rfl, _⟩ := arg_int (k := .i64) (by kernel_rfl) h3
        obtain ⟨n4, rfl, _⟩ := arg_int (k := .i64) (by kernel_rfl) h4
        obtain ⟨n5, rfl, _⟩ := arg_ints (e := 3) (by kernel_rfl) (by kernel_rfl) h5
        obtain ⟨n6, rfl, _⟩ := arg_int (k := .i64) (by kernel_rfl) h6
        obtain ⟨n7, rfl⟩ := arg_bool (by kernel_rfl) h7
        exact mapt_ok n1 n2 n3 n4 n5 n6 n7)
theorem miniApart_row_holds : Rows.MiniApartSaid :=
  OpenClaim.holds_of_wide 10 Tryd.f10 rfl rfl rfl rfl rfl rfl rfl ⟨rfl, rfl, rfl, rfl, rfl⟩ rfl rfl rfl rfl rfl (by kernel_rfl) Tryd.func10 (by kernel_rfl)
    (of_decide_eq_true (by kernel_rfl)) (by unfold Func.isWrapper; first | (rw [if_pos (by decide +kernel)]; kernel_rfl) | (rw [if_neg (by decide +kernel)]; exact ⟨rfl, rfl⟩))
    (fun os started H enc _ => miniApart_lifted os started H enc)
theorem miniApart_card_holds : Rows.MiniApartCardSaid :=
  Claim7.holds_tied_plain_at .later [] [.data, .data, .data] true (true, "102ca1f5da5c52998f5edfe949f841430b613cce0079492f5bc01c543bb3a885") false
    miniApart_row_holds (fun _ h => by cases h) (by kernel_rfl) (fun _ h => by cases h) miniApart_row_tie rfl ⟨rfl, rfl⟩ (by kernel_rfl) rfl
    (fun f fn hf hfn => by
      obtain rfl : f = 10 := (Option.some.inj ((show Tryd.prog.funcNamed "milestone/milestonelaw8.MiniApart" = some 10 by kernel_rfl).symm.trans hf)).symm
      obtain rfl : fn = Tryd.f10 := (Option.some.inj (Tryd.func10.symm.trans hfn)).symm
      refine ⟨by kernel_rfl, fun j t ht => ?_⟩
      exact (wants_all (by kernel_rfl : (Tryd.f10.params.toList.all fun t => !Tryd.prog.wantsStandIn t) = true) ht))
    (by kernel_rfl)
end Go.Proofs.YtpmjpogcaglphaaDoor
