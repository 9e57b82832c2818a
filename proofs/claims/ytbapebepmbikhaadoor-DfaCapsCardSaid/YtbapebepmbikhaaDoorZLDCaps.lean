/- DfaCaps answers true for whatever it is called with; the input reads as it did. -/
import Derived.Test.YtbapebepmbikhaaDoorMLDCaps1
import Derived.Test.YtbapebepmbikhaaDoorMLDCaps2
import Derived.Test.YtbapebepmbikhaaDoorMLDCaps3
import Derived.Test.YtbapebepmbikhaaDoorMLDCaps4
import Derived.Test.YtbapebepmbikhaaDoorMLDCaps5
import Derived.Test.YtbapebepmbikhaaDoorMLDCaps6
import Derived.Test.YtbapebepmbikhaaDoorMLDCaps7
import Derived.Test.YtbapebepmbikhaaDoorMLDCaps8
import Derived.Test.YtbapebepmbikhaaDoorMLDCaps9
set_option linter.unusedVariables false
set_option linter.unusedSimpArgs false
set_option linter.unnecessarySimpa false
/- law7.Make on the caller's memory: what it makes may be written to. -/
namespace Go.Proofs.YtbapebepmbikhaaDoor.A
open Go
set_option maxRecDepth 20000
@[go_sem] theorem freezeR_false (v H) : freezeR false v H = (v, H) := rfl
def md7 (f : FuncId) : Mode := if f = 14 then .raw false else md0 f
theorem md7_make : md7 14 = .raw false := rfl
theorem md7_law7_known : md7 12 = md0 12 := rfl
theorem md7_law7_within : md7 17 = md0 17 := rfl
theorem md7_law5_Word : md7 18 = md0 18 := rfl
theorem md7_law7_Few : md7 13 = md0 13 := rfl
theorem md7_dfa_Run : md7 21 = md0 21 := rfl
theorem md7_dfa_Check : md7 15 = md0 15 := rfl
theorem md7_ref7_Check : md7 16 = md0 16 := rfl
noncomputable def crM7 : CallR := tabLookR [(14, fun args H => if args.length = 3 then runP (EX md0 XW7) noR 20 nz7 Tryd.f14 args H else none)]
theorem crM7_ok : CRSound Tryd.prog crM7 ∧ Up crM7 := by
  refine tabR_cons (tabR_nil _) fun args H v H' h => ?_
  split at h
  · rename_i hn
    exact okR_run (E := EX md0 XW7) XW7_ok (noR_ok Tryd.prog).1 (noR_ok Tryd.prog).2 mixed Tryd.func14 (by rw [hn]; exact look7M XW7) h
  · cases h
theorem make7_call {o : Ob} {nx : Nat} {K : AV × AH → Prop} (size : Int) (ns : List Int) (acc : Int)
    (h : ∀ vN vA o' nx', Made7 o nx (size7 size) ns acc (size7 size) vN vA o' nx' → K (.agg [vN, vA], ⟨o', nx'⟩)) :
    wO (Option.map (fun p => freezeR false p.1 p.2) (crM7 14 [.int .i64 size, slI ns, .int .i64 acc] ⟨o, nx⟩)) K := by
  have hw := make7_wp noR size ns acc o nx
  have hb : Tryd.f14.body = some (Tryd.f14.body.getD .skip) := rfl
  unfold WP at hw
  have e : crM7 14 [.int .i64 size, slI ns, .int .i64 acc] ⟨o, nx⟩ = runP (EX md0 XW7) noR 20 nz7 Tryd.f14 [.int .i64 size, slI ns, .int .i64 acc] ⟨o, nx⟩ := rfl
  rw [e]
  unfold runP
  rw [hb]
  dsimp only
  cases he : evalP (EX md0 XW7) (fun _ _ => none) noR 20 nz7 none (Tryd.f14.body.getD .skip) (begin_ [.int .i64 size, slI ns, .int .i64 acc]) ⟨o, nx⟩ with
  | none => rw [he] at hw; exact hw.elim
  | some p =>
    obtain ⟨u, a, H⟩ := p
    rw [he] at hw
    obtain ⟨rfl, vN, vA, hM, h6, ho6⟩ := hw
    have hr : resultsL (EX md0 XW7).P a H Tryd.f14.results.toList = some [.agg [vN, vA]] := by
      obtain ⟨Ho, Hn⟩ := H
      dsimp only at ho6
      simp only [Tryd.f14]
      simp (disch := omega) only [go_sem, ↓IntWalk.iteOmega, IntWalk.toNatUp, Nat.reduceEqDiff, Nat.reduceAdd, Nat.reduceMul, Nat.reduceSub, Nat.reduceLT, Nat.reduceLeDiff, Int.reduceToNat, Int.reduceLT, Int.reduceLE, Int.reduceEq, Int.reduceAdd, Int.reduceSub, Int.reduceMul, Int.toNat_natCast, reduceCtorEq, decide_true, decide_false, IntWalk.i64_in, IntWalk.u64_in, IntWalk.u8_in, h6, ho6]
    dsimp only
    rw [hr]
    exact h vN vA H.o H.nx hM
/-! ### whether a machine may be -/
def RChkD (args : List AV) (r : AV) : Prop := ∃ (n : Nat) (N : List Int) (A : List Bool), N.length = 5 * n ∧ args = [dfaV n N A] ∧ r = .bool (chkD n N A)
theorem RChkD_fn : Fun1 RChkD := by
  rintro args r r' ⟨n, N, A, _, rfl, rfl⟩ ⟨n', N', A', _, h, rfl⟩
  simp only [List.cons.injEq, and_true] at h
  obtain ⟨h1, h2, h3⟩ := dfaV_inj h
  rw [h1, h2, h3]
theorem RChkD_dfa (args r) (h : RChkD args r) : Ok Tryd.prog 15 args r := by obtain ⟨n, N, A, h, rfl, rfl⟩ := h; exact dchk_ok n N A h
theorem RChkD_ref (args r) (h : RChkD args r) : Ok Tryd.prog 16 args r := by obtain ⟨n, N, A, h, rfl, rfl⟩ := h; exact rchk_ok n N A h
def RFew7 (args : List AV) (r : AV) : Prop := ∃ (n : Nat) (N : List Int) (A : List Bool), args = [dfaV n N A] ∧ r = .bool (decide (n ≤ 60 ∧ A.length ≤ 60))
theorem RFew7_fn : Fun1 RFew7 := by
  rintro args r r' ⟨n, N, A, rfl, rfl⟩ ⟨n', N', A', h, rfl⟩
  simp only [List.cons.injEq, and_true] at h
  obtain ⟨h1, h2, h3⟩ := dfaV_inj h
  rw [h1, h3]
theorem lookFew7 (X) : lookedAt (EX md0 X) (fun _ => none) 1 Tryd.f13 = true := by kernel_rfl
theorem RFew7_ok (args r) (h : RFew7 args r) : Ok Tryd.prog 13 args r := by
  obtain ⟨n, N, A, rfl, rfl⟩ := h
  refine ok_of_WP (E := EX md0 (fun _ _ => none)) (cr := noR) (tab_nil _) (noR_ok _) mixed (k := 2) Tryd.func13 (lookFew7 _) rfl ?_
  simp only [Tryd.f13, Option.getD_some]
  by_cases h1 : (n : Int) ≤ 60
  · by_cases h2 : (A.length : Int) ≤ 60
    · rw [decide_eq_true (by omega)]
      simp (disch := omega) only [go_sem, ↓IntWalk.iteOmega, IntWalk.toNatUp, Nat.reduceEqDiff, Nat.reduceAdd, Nat.reduceMul, Nat.reduceSub, Nat.reduceLT, Nat.reduceLeDiff, Int.reduceToNat, Int.reduceLT, Int.reduceLE, Int.reduceEq, Int.reduceAdd, Int.reduceSub, Int.reduceMul, Int.toNat_natCast, reduceCtorEq, decide_true, decide_false, IntWalk.i64_in, IntWalk.u64_in, IntWalk.u8_in, h1, h2]
    · rw [decide_eq_false (by omega)]
      simp (disch := omega) only [go_sem, ↓IntWalk.iteOmega, IntWalk.toNatUp, Nat.reduceEqDiff, Nat.reduceAdd, Nat.reduceMul, Nat.reduceSub, Nat.reduceLT, Nat.reduceLeDiff, Int.reduceToNat, Int.reduceLT, Int.reduceLE, Int.reduceEq, Int.reduceAdd, Int.reduceSub, Int.reduceMul, Int.toNat_natCast, reduceCtorEq, decide_true, decide_false, IntWalk.i64_in, IntWalk.u64_in, IntWalk.u8_in, h1, h2]
  · rw [decide_eq_false (by omega)]
    simp (disch := omega) only [go_sem, ↓IntWalk.iteOmega, IntWalk.toNatUp, Nat.reduceEqDiff, Nat.reduceAdd, Nat.reduceMul, Nat.reduceSub, Nat.reduceLT, Nat.reduceLeDiff, Int.reduceToNat, Int.reduceLT, Int.reduceLE, Int.reduceEq, Int.reduceAdd, Int.reduceSub, Int.reduceMul, Int.toNat_natCast, reduceCtorEq, decide_true, decide_false, IntWalk.i64_in, IntWalk.u64_in, IntWalk.u8_in, h1]
noncomputable def XCk7 : FuncId → List AV → Option AV := tabLook [(12, tRel RKn7), (17, tRel RW), (13, tRel RFew7), (15, tRel RChkD), (16, tRel RChkD), (18, tRel RWord), (21, tRel RRunD)]
theorem XCk7_ok : CPSound Tryd.prog XCk7 := tab_cons (tab_cons (tab_cons (tab_cons (tab_cons (tab_cons (tab_cons (tab_nil _) (tRel_ok RRunD_dfa)) (tRel_ok RWord_ok)) (tRel_ok RChkD_ref)) (tRel_ok RChkD_dfa)) (tRel_ok RFew7_ok)) (tRel_ok within3_ok)) (tRel_ok RKn7_ok)
theorem XCk7_known : XCk7 12 [] = some (.bool true) := tRel_eq (R := RKn7) RKn7_fn ⟨rfl, rfl⟩
theorem XCk7_within (a n : Int) (h1 : 0 < n) (h2 : n ≤ 1000000) : XCk7 17 [.int .i64 a, .int .i64 n] = some (.int .i64 (a % n)) := rw_eq h1 h2
theorem XCk7_few (n N A) : XCk7 13 [dfaV n N A] = some (.bool (decide (n ≤ 60 ∧ A.length ≤ 60))) := tRel_eq (R := RFew7) RFew7_fn ⟨_, _, _, rfl, rfl⟩
theorem XCk7_dc (n N A) (h : N.length = 5 * n) : XCk7 15 [dfaV n N A] = some (.bool (chkD n N A)) := tRel_eq (R := RChkD) RChkD_fn ⟨_, _, _, h, rfl, rfl⟩
theorem XCk7_rc (n N A) (h : N.length = 5 * n) : XCk7 16 [dfaV n N A] = some (.bool (chkD n N A)) := tRel_eq (R := RChkD) RChkD_fn ⟨_, _, _, h, rfl, rfl⟩
theorem XCk7_word (ns : List Int) (most few : Int) (h : 0 ≤ most ∧ most ≤ 1000) : XCk7 18 [slI ns, .int .i64 most, .int .i64 few] = some (slI (wordOf ns most few)) := tRel_eq (R := RWord) RWord_fn ⟨_, _, _, h, rfl, rfl⟩
theorem XCk7_run {n N A} (hw : WfD n N A) (w : List Int) (hl : w.length ≤ 1000000) : XCk7 21 [dfaV n N A, slI w] = some (.bool (runD n N A w)) := tRel_eq (R := RRunD) RRunD_fn ⟨_, _, _, _, hw, hl, rfl, rfl⟩
theorem chk_wf {n N A} (h : WfD n N A) : chkD n N A = true := by
  unfold chkD
  rw [decide_eq_true ⟨h.sz.1, h.sz.2, h.a⟩, Bool.true_and, List.all_eq_true]
  exact fun x hx => decide_eq_true (h.e x hx)
end Go.Proofs.YtbapebepmbikhaaDoor.A
/- Machines of one way out of machines of many: Subsets. -/
namespace Go.Proofs.YtbapebepmbikhaaDoor.A
open Go
set_option maxRecDepth 20000
@[go_sem] theorem view_mp' (o d k) : view o d (.mp k) = .und := by cases d <;> rfl
@[go_sem] theorem tags_mp' (o d k) : viewTags o d (.mp k) = [] := by cases d <;> rfl
noncomputable def fS (N : Nat) (ss : List St3) (fs : List (Int × Int)) (b : List Bool) (m : Nat) : List Bool := stepB N (rowsOf N fs) ss b (m : Int)
noncomputable def t0S (N : Nat) (S : Int) (fs : List (Int × Int)) : List Bool := closeB N (rowsOf N fs) [S]
noncomputable def subM (N : Nat) (S : Int) (ss : List St3) (fs : List (Int × Int)) (cap : Nat) : Option (List (List Bool) × List Nat) := bfsS (fS N ss fs) cap 1002 0 [t0S N S fs] []
def natI (l : List Nat) : List Int := l.map Int.ofNat
def accS (F : Int) (L : List (List Bool)) : List Bool := L.map fun b => b.getD F.toNat false
theorem beq_same : (instBEqOfDecidableEq : BEq (List Bool)) = List.instBEq := by
  have h : ∀ (a b : BEq (List Bool)) (_ : ∀ x y, a.beq x y = b.beq x y), a = b := fun a b h => by
    cases a; cases b
    congr
    funext x y
    exact h x y
  refine h _ _ fun x y => ?_
  rw [Bool.eq_iff_iff]
  exact ⟨fun e => by rw [show x = y from of_decide_eq_true e]; exact beq_self_eq_true y, fun e => decide_eq_true (eq_of_beq (α := List Bool) e)⟩
theorem rowS_next (f : List Bool → Nat → List Bool) (x m L) : rowS f x (m + 1) L = (metS (rowS f x m L).1 (f x m), (rowS f x m L).2 ++ [(rowS f x m L).1.idxOf (f x m)]) := by
  have h : rowS f x (m + 1) L = (metS (rowS f x m L).1 (f x m), (rowS f x m L).2 ++ [@List.idxOf _ instBEqOfDecidableEq (f x m) (rowS f x m L).1]) := rfl
  rw [beq_same] at h
  exact h
theorem SubAt.slot {o nx N S F ss fs lr L} (h : SubAt o nx N S F ss fs lr L) {o' : Ob} {nx' : Nat} (hk : ∀ j k, k ≠ 11 → k ≠ 9 → k ≠ 93 → k ≠ 106 → k ≠ 92 → k ≠ 105 → o' (j, k) = o (j, k)) (hn : nx ≤ nx') : SubAt o' nx' N S F ss fs lr L := by
  obtain ⟨lcs, vS, scs, h⟩ := h
  have h2 := h.two
  have hk : ∀ j k, (k = 20 ∨ k = 17 ∨ k = 18 ∨ k = 44 ∨ k = 45 ∨ k = 34) → o' (j, k) = o (j, k) := fun j k h => hk j k (by omega) (by omega) (by omega) (by omega) (by omega) (by omega)
  exact ⟨lcs, vS, scs, ⟨by omega, by rw [hk _ _ (by decide)]; exact h.row, by rw [hk _ _ (by decide)]; exact h.leads, h.rows.keep (fun i hi => hk i _ (by decide)) hn, h.ll, by rw [hk _ _ (by decide)]; exact h.known, h.hs.keep (fun i hi => hk i _ (by decide)) hn, h.ni.keep (fun i hi => hk i _ (by decide)) hn, h.ne⟩⟩
theorem natI_app (x y) : natI (x ++ y) = natI x ++ natI y := by simp [natI]
theorem natI_length (x) : (natI x).length = x.length := by simp [natI]
theorem accS_length (F L) : (accS F L).length = L.length := by simp [accS]
theorem fS_length (N ss fs b m) : (fS N ss fs b m).length = N := by unfold fS stepB; exact closeB_length ..
theorem t0S_length (N S fs) : (t0S N S fs).length = N := closeB_length ..
def noneV : AV := .tup [.agg [.sl 0 [], .sl 0 []], .int .i64 5]
noncomputable def subV (F : Int) (r : Option (List (List Bool) × List Nat)) : AV := match r with
  | none => noneV
  | some (L, R) => .tup [dfaV L.length (natI R) (accS F L), .int .i64 0]
noncomputable def XSub : FuncId → List AV → Option AV := tabLook [(36, tRel RClo), (38, tRel RAcc)]
theorem XSub_ok : CPSound Tryd.prog XSub := tab_cons (tab_cons (tab_nil _) (tRel_ok RAcc_ok)) (tRel_ok RClo_ok)
theorem XSub_clo {N : Nat} {S F : Int} {ss fs} (hw : Wf N S F ss fs) (l : List Int) (h : l.length ≤ 9000000) : XSub 36 [nfaV N S F ss fs, slI l] = some (slI (idxs (closeB N (rowsOf N fs) l))) := tRel_eq (R := RClo) RClo_fn ⟨_, _, _, _, _, _, hw, h, rfl, rfl⟩
theorem XSub_acc (N S F : Int) (rest : List AV) (l : List Int) (h : l.length ≤ 100000) : XSub 38 [.fptr (.int .i64 N :: .int .i64 S :: .int .i64 F :: rest), slI l] = some (.bool (decide (F ∈ l))) := tRel_eq (R := RAcc) RAcc_fn ⟨_, _, _, _, _, h, rfl, rfl⟩
def nzSub : Nat → Option (List (Nat × Nat))
  | 1 => some [(0, 3), (0, 4), (2, 4), (3, 4)]
  | 5 => some [(3, 15), (5, 15), (9, 15), (11, 15), (13, 15), (3, 16), (5, 16)]
  | 20 => some [(1, 3), (3, 6), (4, 6), (3, 11), (4, 11), (3, 14), (4, 14), (6, 16)]
  | 21 => some [(3, 5), (3, 6), (1, 7), (2, 7), (3, 7), (1, 9), (2, 9), (3, 9), (5, 9), (6, 9), (7, 9)]
  | _ => none
theorem lookSub (X) : lookedAt (EX md0 X) nzSub 2 Tryd.f24 = true := by kernel_rfl
set_option maxHeartbeats 4000000 in
theorem sub_wp (N : Nat) (S F : Int) (ss fs) (hN : N ≤ 1000) (hw : Wf N S F ss fs) (hss : ss.length ≤ 1000) (cap : Nat) (hc1 : 1 ≤ cap) (hc2 : cap ≤ 1000) :
    WP (EX md0 XSub) crSub 1003 nzSub (Tryd.f24.body.getD .skip) (begin_ [nfaV N S F ss fs, .int .i64 cap]) (fun _ => none) 0 (fun u a o nx => u = .ret ∧ view o vDepth (.tup [(aLoad Tryd.prog 25 (a 4) ⟨o, nx⟩).getD .und, a 5]) = subV F (subM N S ss fs cap)) := by
  have hS := hw.s
  have hF := hw.f
  simp only [Tryd.f24, Option.getD_some]
  simp (disch := omega) only [go_sem, ↓IntWalk.iteOmega, IntWalk.toNatUp, Nat.reduceEqDiff, Nat.reduceAdd, Nat.reduceMul, Nat.reduceSub, Nat.reduceLT, Nat.reduceLeDiff, Int.reduceToNat, Int.reduceLT, Int.reduceLE, Int.reduceEq, Int.reduceAdd, Int.reduceSub, Int.reduceMul, Int.toNat_natCast, reduceCtorEq, decide_true, decide_false, IntWalk.i64_in, IntWalk.u64_in, IntWalk.u8_in, nzSub, rep_one]
  refine WP_loop (fun mm a o nx => ∃ i lcs, i ≤ ss.length ∧ mm = ss.length - i ∧ SubRow o nx N S F ss fs (leadsOf N (ss.take i)) [] lcs .nil [] ∧ a 1 = .int .i64 cap ∧ a 2 = .ptr (0, 2) (0, 2) 0 ∧ a 4 = .ptr (0, 4) (0, 4) 0 ∧ a 5 = .int .i64 0 ∧ a 6 = subP ∧ a 22 = .sl ss.length (cS ss) ∧ a 23 = .int .i64 ss.length ∧ a 24 = .int .i64 i ∧ o (0, 2) = some (.row ⟨42, 1, (0, 2), false, true, [.int .i64 N, .int .i64 S, .int .i64 F, .sl ss.length (cS ss), .sl fs.length (cP fs)]⟩) ∧ o (0, 4) = some (.row ⟨25, 1, (0, 4), false, true, [.nil, .nil]⟩)) ss.length (by omega) ⟨0, List.replicate N .nil, by omega, by omega, ⟨by omega, ?_, ?_, NS.start _ _ _ N, by simp [leadsOf], ?_, HS.nil, ⟨rfl, fun j hj => absurd hj (by simp), fun j j' i g n g' n' _ h => by simp at h⟩, fun x hx => absurd hx (by simp)⟩, ?_⟩ ?_
  · simp (disch := omega) only [go_sem, ↓IntWalk.iteOmega, IntWalk.toNatUp, Nat.reduceEqDiff, Nat.reduceAdd, Nat.reduceMul, Nat.reduceSub, Nat.reduceLT, Nat.reduceLeDiff, Int.reduceToNat, Int.reduceLT, Int.reduceLE, Int.reduceEq, Int.reduceAdd, Int.reduceSub, Int.reduceMul, Int.toNat_natCast, reduceCtorEq, decide_true, decide_false, IntWalk.i64_in, IntWalk.u64_in, IntWalk.u8_in]
  · simp (disch := omega) only [go_sem, ↓IntWalk.iteOmega, IntWalk.toNatUp, Nat.reduceEqDiff, Nat.reduceAdd, Nat.reduceMul, Nat.reduceSub, Nat.reduceLT, Nat.reduceLeDiff, Int.reduceToNat, Int.reduceLT, Int.reduceLE, Int.reduceEq, Int.reduceAdd, Int.reduceSub, Int.reduceMul, Int.toNat_natCast, reduceCtorEq, decide_true, decide_false, IntWalk.i64_in, IntWalk.u64_in, IntWalk.u8_in]
  · simp (disch := omega) only [go_sem, ↓IntWalk.iteOmega, IntWalk.toNatUp, Nat.reduceEqDiff, Nat.reduceAdd, Nat.reduceMul, Nat.reduceSub, Nat.reduceLT, Nat.reduceLeDiff, Int.reduceToNat, Int.reduceLT, Int.reduceLE, Int.reduceEq, Int.reduceAdd, Int.reduceSub, Int.reduceMul, Int.toNat_natCast, reduceCtorEq, decide_true, decide_false, IntWalk.i64_in, IntWalk.u64_in, IntWalk.u8_in]
    rfl
  · simp (disch := omega) only [go_sem, ↓IntWalk.iteOmega, IntWalk.toNatUp, Nat.reduceEqDiff, Nat.reduceAdd, Nat.reduceMul, Nat.reduceSub, Nat.reduceLT, Nat.reduceLeDiff, Int.reduceToNat, Int.reduceLT, Int.reduceLE, Int.reduceEq, Int.reduceAdd, Int.reduceSub, Int.reduceMul, Int.toNat_natCast, reduceCtorEq, decide_true, decide_false, IntWalk.i64_in, IntWalk.u64_in, IntWalk.u8_in]
  rintro mm a o nx ⟨i, lcs, hi, rfl, hR, h1, h2, h4, h5, h6, h22, h23, h24, ho2, ho4⟩
  have htwo := hR.two
  have ho20 := hR.row
  have ho17 := hR.leads
  have ho18 := hR.known
  have hNS := hR.rows
  by_cases hlt : i < ss.length
  · obtain ⟨⟨hf0, hfN⟩, _⟩ := hw.steps (ss.getD i (0, 0, 0)) (getD_mem hlt _)
    have hat := cS_at hlt
    have htake := take_succ_getD hlt (0, 0, 0)
    generalize ss.getD i (0, 0, 0) = p at hf0 hfN hat htake
    obtain ⟨f, t, set⟩ := p
    simp only at hf0 hfN hat htake
    obtain ⟨j, rfl⟩ := Int.eq_ofNat_of_zero_le hf0
    have hrl := leadsOf_length N (ss.take i)
    have hcl : lcs.length = N := by rw [hNS.1, hrl]
    have hjN : j < lcs.length := by omega
    have hH := hNS.2.1 j (by omega)
    have hget := cs_get (s := 1) hjN
    generalize hv : lcs.getD j .nil = v at hH hget
    have hspl : ∀ v, splice lcs j [v] = lcs.set j v := fun v => splice_eq lcs j v hjN
    have hnext : leadsOf N (ss.take (i + 1)) = (leadsOf N (ss.take i)).set j ((leadsOf N (ss.take i)).getD j [] ++ [((j : Int), t, set)]) := by rw [htake, leadsOf_snoc]; rfl
    have hjr : j < (leadsOf N (ss.take i)).length := by omega
    have hle := leadsOf_le N (ss.take i) j
    have hlt' : (ss.take i).length ≤ ss.length := by simp; omega
    rcases hH with ⟨rfl, e2, e3⟩ | ⟨i1, g, rfl, hi1, hrow, hlen⟩
    · simp (disch := omega) only [go_sem, ↓IntWalk.iteOmega, IntWalk.toNatUp, Nat.reduceEqDiff, Nat.reduceAdd, Nat.reduceMul, Nat.reduceSub, Nat.reduceLT, Nat.reduceLeDiff, Int.reduceToNat, Int.reduceLT, Int.reduceLE, Int.reduceEq, Int.reduceAdd, Int.reduceSub, Int.reduceMul, Int.toNat_natCast, reduceCtorEq, decide_true, decide_false, IntWalk.i64_in, IntWalk.u64_in, IntWalk.u8_in, nzSub, h1, h2, h4, h5, h6, h22, h23, h24, ho2, ho4, ho20, ho17, hat, hget, hspl]
      have e4 : (leadsOf N (ss.take i)).getD j [] = [] := List.length_eq_zero_iff.1 e2
      refine ⟨_, ?_, i + 1, _, by omega, rfl, ⟨by omega, ?_, upd_same _ _ _, ?_, leadsOf_length _ _, ?_, HS.nil, ?_, fun x hx => absurd hx (by simp)⟩, rfl⟩
      · omega
      · simp (disch := omega) only [go_sem, ↓IntWalk.iteOmega, IntWalk.toNatUp, Nat.reduceEqDiff, Nat.reduceAdd, Nat.reduceMul, Nat.reduceSub, Nat.reduceLT, Nat.reduceLeDiff, Int.reduceToNat, Int.reduceLT, Int.reduceLE, Int.reduceEq, Int.reduceAdd, Int.reduceSub, Int.reduceMul, Int.toNat_natCast, reduceCtorEq, decide_true, decide_false, IntWalk.i64_in, IntWalk.u64_in, IntWalk.u8_in, ho20]
      · rw [hnext, e4]
        exact NS.set (l := [((j : Int), t, set)]) hNS hjr rfl (by omega) (by omega) (.inl ⟨hv, by omega⟩) (fun i' _ h => by simp [upd_app, h]) (by simp [upd_app, cS])
      · simp (disch := omega) only [go_sem, ↓IntWalk.iteOmega, IntWalk.toNatUp, Nat.reduceEqDiff, Nat.reduceAdd, Nat.reduceMul, Nat.reduceSub, Nat.reduceLT, Nat.reduceLeDiff, Int.reduceToNat, Int.reduceLT, Int.reduceLE, Int.reduceEq, Int.reduceAdd, Int.reduceSub, Int.reduceMul, Int.toNat_natCast, reduceCtorEq, decide_true, decide_false, IntWalk.i64_in, IntWalk.u64_in, IntWalk.u8_in, ho18]
      · exact hR.ni.keep (fun _ _ => by simp [upd_app]) (by omega)
    · generalize (leadsOf N (ss.take i)).getD j [] = r at *
      simp (disch := omega) only [go_sem, ↓IntWalk.iteOmega, IntWalk.toNatUp, Nat.reduceEqDiff, Nat.reduceAdd, Nat.reduceMul, Nat.reduceSub, Nat.reduceLT, Nat.reduceLeDiff, Int.reduceToNat, Int.reduceLT, Int.reduceLE, Int.reduceEq, Int.reduceAdd, Int.reduceSub, Int.reduceMul, Int.toNat_natCast, reduceCtorEq, decide_true, decide_false, IntWalk.i64_in, IntWalk.u64_in, IntWalk.u8_in, nzSub, h1, h2, h4, h5, h6, h22, h23, h24, ho2, ho4, ho20, ho17, hat, hget, hspl, hrow]
      refine ⟨_, ?_, i + 1, _, by omega, rfl, ⟨by omega, ?_, upd_same _ _ _, ?_, leadsOf_length _ _, ?_, HS.nil, ?_, fun x hx => absurd hx (by simp)⟩, rfl⟩
      · omega
      · simp (disch := omega) only [go_sem, ↓IntWalk.iteOmega, IntWalk.toNatUp, Nat.reduceEqDiff, Nat.reduceAdd, Nat.reduceMul, Nat.reduceSub, Nat.reduceLT, Nat.reduceLeDiff, Int.reduceToNat, Int.reduceLT, Int.reduceLE, Int.reduceEq, Int.reduceAdd, Int.reduceSub, Int.reduceMul, Int.toNat_natCast, reduceCtorEq, decide_true, decide_false, IntWalk.i64_in, IntWalk.u64_in, IntWalk.u8_in, ho20]
      · rw [hnext]
        exact NS.set (l := r ++ [((j : Int), t, set)]) hNS hjr (by simp) (by omega) (by omega) (.inr ⟨_, _, hv⟩) (fun i' _ h => by simp [upd_app, h]) (by simp [upd_app, cS])
      · simp (disch := omega) only [go_sem, ↓IntWalk.iteOmega, IntWalk.toNatUp, Nat.reduceEqDiff, Nat.reduceAdd, Nat.reduceMul, Nat.reduceSub, Nat.reduceLT, Nat.reduceLeDiff, Int.reduceToNat, Int.reduceLT, Int.reduceLE, Int.reduceEq, Int.reduceAdd, Int.reduceSub, Int.reduceMul, Int.toNat_natCast, reduceCtorEq, decide_true, decide_false, IntWalk.i64_in, IntWalk.u64_in, IntWalk.u8_in, ho18]
      · exact hR.ni.keep (fun _ _ => by simp [upd_app]) (by omega)
  · have hie : i = ss.length := by omega
    subst hie
    rw [List.take_length] at hR
    have hclo : XSub 36 [nfaV N S F ss fs, .sl 1 [.int .i64 S]] = some (slI (idxs (t0S N S fs))) := XSub_clo hw [S] (by simp)
    have hk0 : BKeep40 nx o (sealed [(nx + 1, 51)] (upd o (nx + 1, 51) (.row ⟨3, 1, (nx + 1, 51), false, true, [.int .i64 S]⟩))) := fun i k hi hk => by
      rw [sealed_out (by simp; omega), upd_fst (by omega)]
    simp (disch := omega) only [go_sem, ↓IntWalk.iteOmega, IntWalk.toNatUp, Nat.reduceEqDiff, Nat.reduceAdd, Nat.reduceMul, Nat.reduceSub, Nat.reduceLT, Nat.reduceLeDiff, Int.reduceToNat, Int.reduceLT, Int.reduceLE, Int.reduceEq, Int.reduceAdd, Int.reduceSub, Int.reduceMul, Int.toNat_natCast, reduceCtorEq, decide_true, decide_false, IntWalk.i64_in, IntWalk.u64_in, IntWalk.u8_in, nzSub, h1, h2, h4, h5, h6, h22, h23, h24, ho2, ho4, hclo]
    refine met_call hN (SubAt.keep ⟨lcs, .nil, [], hR⟩ hk0 (by omega)) (fun b hb => absurd hb (by simp)) (by simp) (t0S_length N S fs) ?_
    intro o1 nx1 hle1 hS1 hkp1
    have hm1 : metS [] (t0S N S fs) = [t0S N S fs] := rfl
    rw [hm1] at hS1
    have ho4' : o1 (0, 4) = some (.row ⟨25, 1, (0, 4), false, true, [.nil, .nil]⟩) := by
      rw [hkp1 0 4 (by omega) (by decide) (by decide) (by decide) (by decide), hk0 0 4 (by omega) (by decide)]
      exact ho4
    clear hR ho2 ho4 hNS ho20 ho17 ho18 hkp1 hk0 hclo
    simp (disch := omega) only [go_sem, ↓IntWalk.iteOmega, IntWalk.toNatUp, Nat.reduceEqDiff, Nat.reduceAdd, Nat.reduceMul, Nat.reduceSub, Nat.reduceLT, Nat.reduceLeDiff, Int.reduceToNat, Int.reduceLT, Int.reduceLE, Int.reduceEq, Int.reduceAdd, Int.reduceSub, Int.reduceMul, Int.toNat_natCast, reduceCtorEq, decide_true, decide_false, IntWalk.i64_in, IntWalk.u64_in, IntWalk.u8_in, nzSub, h1, h2, h4, h5, h6, h22, h23, h24]
    have two1 : 2 ≤ nx1 := by omega
    refine WP_loop (fun mm a o nx => ∃ i L R q9 vN vA, bfsS (fS N ss fs) cap (1002 - i) i L R = subM N S ss fs cap ∧ mm = 1002 - i ∧ i ≤ L.length ∧ 1 ≤ L.length ∧ L.length ≤ cap ∧ R.length = i * 5 ∧ (∀ b ∈ L, b.length = N) ∧ SubAt o nx N S F ss fs (leadsOf N ss) L ∧ q9 < nx ∧ o (q9, 9) = some (.row ⟨25, 1, (q9, 9), false, true, [vN, vA]⟩) ∧ HS 31 5 93 o nx vN i (cI (natI R)) ∧ HS 4 1 106 o nx vA i (cB (accS F (L.take i))) ∧ o (0, 4) = some (.row ⟨25, 1, (0, 4), false, true, [.nil, .nil]⟩) ∧ a 1 = .int .i64 cap ∧ a 4 = .ptr (0, 4) (0, 4) 0 ∧ a 5 = .int .i64 0 ∧ a 6 = subP ∧ a 9 = .ptr (q9, 9) (q9, 9) 0 ∧ a 10 = .int .i64 i) 1002 (by omega)
      ⟨0, [t0S N S fs], [], nx1, .nil, .nil, rfl, by omega, by simp, by simp, by simp; omega, rfl, fun b hb => by rw [List.mem_singleton.1 hb]; exact t0S_length N S fs, hS1.keep (fun i k hi hk => by rw [upd_fst (by omega)]) (by omega), by omega, upd_same _ _ _, HS.nil, HS.nil, by simp (disch := omega) only [go_sem, ↓IntWalk.iteOmega, IntWalk.toNatUp, Nat.reduceEqDiff, Nat.reduceAdd, Nat.reduceMul, Nat.reduceSub, Nat.reduceLT, Nat.reduceLeDiff, Int.reduceToNat, Int.reduceLT, Int.reduceLE, Int.reduceEq, Int.reduceAdd, Int.reduceSub, Int.reduceMul, Int.toNat_natCast, reduceCtorEq, decide_true, decide_false, IntWalk.i64_in, IntWalk.u64_in, IntWalk.u8_in, ho4'], by simp (disch := omega) only [go_sem, ↓IntWalk.iteOmega, IntWalk.toNatUp, Nat.reduceEqDiff, Nat.reduceAdd, Nat.reduceMul, Nat.reduceSub, Nat.reduceLT, Nat.reduceLeDiff, Int.reduceToNat, Int.reduceLT, Int.reduceLE, Int.reduceEq, Int.reduceAdd, Int.reduceSub, Int.reduceMul, Int.toNat_natCast, reduceCtorEq, decide_true, decide_false, IntWalk.i64_in, IntWalk.u64_in, IntWalk.u8_in, h1], by simp (disch := omega) only [go_sem, ↓IntWalk.iteOmega, IntWalk.toNatUp, Nat.reduceEqDiff, Nat.reduceAdd, Nat.reduceMul, Nat.reduceSub, Nat.reduceLT, Nat.reduceLeDiff, Int.reduceToNat, Int.reduceLT, Int.reduceLE, Int.reduceEq, Int.reduceAdd, Int.reduceSub, Int.reduceMul, Int.toNat_natCast, reduceCtorEq, decide_true, decide_false, IntWalk.i64_in, IntWalk.u64_in, IntWalk.u8_in, h4], by simp (disch := omega) only [go_sem, ↓IntWalk.iteOmega, IntWalk.toNatUp, Nat.reduceEqDiff, Nat.reduceAdd, Nat.reduceMul, Nat.reduceSub, Nat.reduceLT, Nat.reduceLeDiff, Int.reduceToNat, Int.reduceLT, Int.reduceLE, Int.reduceEq, Int.reduceAdd, Int.reduceSub, Int.reduceMul, Int.toNat_natCast, reduceCtorEq, decide_true, decide_false, IntWalk.i64_in, IntWalk.u64_in, IntWalk.u8_in, h5], by simp (disch := omega) only [go_sem, ↓IntWalk.iteOmega, IntWalk.toNatUp, Nat.reduceEqDiff, Nat.reduceAdd, Nat.reduceMul, Nat.reduceSub, Nat.reduceLT, Nat.reduceLeDiff, Int.reduceToNat, Int.reduceLT, Int.reduceLE, Int.reduceEq, Int.reduceAdd, Int.reduceSub, Int.reduceMul, Int.toNat_natCast, reduceCtorEq, decide_true, decide_false, IntWalk.i64_in, IntWalk.u64_in, IntWalk.u8_in, h6], by simp (disch := omega) only [go_sem, ↓IntWalk.iteOmega, IntWalk.toNatUp, Nat.reduceEqDiff, Nat.reduceAdd, Nat.reduceMul, Nat.reduceSub, Nat.reduceLT, Nat.reduceLeDiff, Int.reduceToNat, Int.reduceLT, Int.reduceLE, Int.reduceEq, Int.reduceAdd, Int.reduceSub, Int.reduceMul, Int.toNat_natCast, reduceCtorEq, decide_true, decide_false, IntWalk.i64_in, IntWalk.u64_in, IntWalk.u8_in], by simp (disch := omega) only [go_sem, ↓IntWalk.iteOmega, IntWalk.toNatUp, Nat.reduceEqDiff, Nat.reduceAdd, Nat.reduceMul, Nat.reduceSub, Nat.reduceLT, Nat.reduceLeDiff, Int.reduceToNat, Int.reduceLT, Int.reduceLE, Int.reduceEq, Int.reduceAdd, Int.reduceSub, Int.reduceMul, Int.toNat_natCast, reduceCtorEq, decide_true, decide_false, IntWalk.i64_in, IntWalk.u64_in, IntWalk.u8_in]⟩ ?_
    clear hS1 ho4' h1 h2 h4 h5 h6 h22 h23 h24
    rintro mm a o nx ⟨i, L, R, q9, vN, vA, hB, rfl, hi, hL1, hLc, hRl, hLN, hSub, hq9, ho9, hvN, hvA, ho4, h1, h4, h5, h6, h9, h10⟩
    have hSub' := hSub
    obtain ⟨lcs, vS, scs, hR⟩ := hSub'
    have two := hR.two
    have ho20 := hR.row
    have hLs := hR.hs
    by_cases hlt : i < L.length
    · rcases hLs with ⟨_, e, _⟩ | ⟨i5, g5, rfl, hi5, hro5, hl5⟩
      · omega
      obtain ⟨x, hx⟩ : ∃ x, L[i]? = some x := ⟨_, List.getElem?_eq_getElem hlt⟩
      have hxN := hLN x (List.mem_of_getElem? hx)
      simp (disch := omega) only [go_sem, ↓IntWalk.iteOmega, IntWalk.toNatUp, Nat.reduceEqDiff, Nat.reduceAdd, Nat.reduceMul, Nat.reduceSub, Nat.reduceLT, Nat.reduceLeDiff, Int.reduceToNat, Int.reduceLT, Int.reduceLE, Int.reduceEq, Int.reduceAdd, Int.reduceSub, Int.reduceMul, Int.toNat_natCast, reduceCtorEq, decide_true, decide_false, IntWalk.i64_in, IntWalk.u64_in, IntWalk.u8_in, nzSub, h1, h4, h5, h6, h9, h10, ho20]
      refine WP_loop (fun mm a o' nx' => ∃ m q11, m ≤ 5 ∧ mm = 5 - m ∧ nx ≤ nx' ∧ SubAt o' nx' N S F ss fs (leadsOf N ss) (rowS (fS N ss fs) x m L).1 ∧ (rowS (fS N ss fs) x m L).1.length ≤ cap ∧ nx ≤ q11 ∧ q11 < nx' ∧ o' (q11, 11) = some (.row ⟨31, 1, (q11, 11), false, true, cI (natI (rowS (fS N ss fs) x m L).2 ++ List.replicate (5 - m) 0)⟩) ∧ (∀ j k, j < nx → (k = 9 ∨ k = 93 ∨ k = 106 ∨ k = 4) → o' (j, k) = o (j, k)) ∧
        a 1 = .int .i64 cap ∧ a 4 = .ptr (0, 4) (0, 4) 0 ∧ a 5 = .int .i64 0 ∧ a 6 = subP ∧ a 9 = .ptr (q9, 9) (q9, 9) 0 ∧ a 10 = .int .i64 i ∧ a 11 = .ptr (q11, 11) (q11, 11) 0 ∧ a 63 = .int .i64 m) 5 (by omega)
        ⟨0, nx + 1, by omega, by omega, by omega, hSub.keep (fun j k hj hk => by rw [upd_fst (by omega)]) (by omega), hLc, by omega, by omega, upd_same _ _ _, fun j k hj hk => by rw [upd_fst (by omega)], by simp (disch := omega) only [go_sem, ↓IntWalk.iteOmega, IntWalk.toNatUp, Nat.reduceEqDiff, Nat.reduceAdd, Nat.reduceMul, Nat.reduceSub, Nat.reduceLT, Nat.reduceLeDiff, Int.reduceToNat, Int.reduceLT, Int.reduceLE, Int.reduceEq, Int.reduceAdd, Int.reduceSub, Int.reduceMul, Int.toNat_natCast, reduceCtorEq, decide_true, decide_false, IntWalk.i64_in, IntWalk.u64_in, IntWalk.u8_in, h1], by simp (disch := omega) only [go_sem, ↓IntWalk.iteOmega, IntWalk.toNatUp, Nat.reduceEqDiff, Nat.reduceAdd, Nat.reduceMul, Nat.reduceSub, Nat.reduceLT, Nat.reduceLeDiff, Int.reduceToNat, Int.reduceLT, Int.reduceLE, Int.reduceEq, Int.reduceAdd, Int.reduceSub, Int.reduceMul, Int.toNat_natCast, reduceCtorEq, decide_true, decide_false, IntWalk.i64_in, IntWalk.u64_in, IntWalk.u8_in, h4], by simp (disch := omega) only [go_sem, ↓IntWalk.iteOmega, IntWalk.toNatUp, Nat.reduceEqDiff, Nat.reduceAdd, Nat.reduceMul, Nat.reduceSub, Nat.reduceLT, Nat.reduceLeDiff, Int.reduceToNat, Int.reduceLT, Int.reduceLE, Int.reduceEq, Int.reduceAdd, Int.reduceSub, Int.reduceMul, Int.toNat_natCast, reduceCtorEq, decide_true, decide_false, IntWalk.i64_in, IntWalk.u64_in, IntWalk.u8_in, h5], by simp (disch := omega) only [go_sem, ↓IntWalk.iteOmega, IntWalk.toNatUp, Nat.reduceEqDiff, Nat.reduceAdd, Nat.reduceMul, Nat.reduceSub, Nat.reduceLT, Nat.reduceLeDiff, Int.reduceToNat, Int.reduceLT, Int.reduceLE, Int.reduceEq, Int.reduceAdd, Int.reduceSub, Int.reduceMul, Int.toNat_natCast, reduceCtorEq, decide_true, decide_false, IntWalk.i64_in, IntWalk.u64_in, IntWalk.u8_in, h6], by simp (disch := omega) only [go_sem, ↓IntWalk.iteOmega, IntWalk.toNatUp, Nat.reduceEqDiff, Nat.reduceAdd, Nat.reduceMul, Nat.reduceSub, Nat.reduceLT, Nat.reduceLeDiff, Int.reduceToNat, Int.reduceLT, Int.reduceLE, Int.reduceEq, Int.reduceAdd, Int.reduceSub, Int.reduceMul, Int.toNat_natCast, reduceCtorEq, decide_true, decide_false, IntWalk.i64_in, IntWalk.u64_in, IntWalk.u8_in, h9], by simp (disch := omega) only [go_sem, ↓IntWalk.iteOmega, IntWalk.toNatUp, Nat.reduceEqDiff, Nat.reduceAdd, Nat.reduceMul, Nat.reduceSub, Nat.reduceLT, Nat.reduceLeDiff, Int.reduceToNat, Int.reduceLT, Int.reduceLE, Int.reduceEq, Int.reduceAdd, Int.reduceSub, Int.reduceMul, Int.toNat_natCast, reduceCtorEq, decide_true, decide_false, IntWalk.i64_in, IntWalk.u64_in, IntWalk.u8_in, h10], by simp (disch := omega) only [go_sem, ↓IntWalk.iteOmega, IntWalk.toNatUp, Nat.reduceEqDiff, Nat.reduceAdd, Nat.reduceMul, Nat.reduceSub, Nat.reduceLT, Nat.reduceLeDiff, Int.reduceToNat, Int.reduceLT, Int.reduceLE, Int.reduceEq, Int.reduceAdd, Int.reduceSub, Int.reduceMul, Int.toNat_natCast, reduceCtorEq, decide_true, decide_false, IntWalk.i64_in, IntWalk.u64_in, IntWalk.u8_in], by simp (disch := omega) only [go_sem, ↓IntWalk.iteOmega, IntWalk.toNatUp, Nat.reduceEqDiff, Nat.reduceAdd, Nat.reduceMul, Nat.reduceSub, Nat.reduceLT, Nat.reduceLeDiff, Int.reduceToNat, Int.reduceLT, Int.reduceLE, Int.reduceEq, Int.reduceAdd, Int.reduceSub, Int.reduceMul, Int.toNat_natCast, reduceCtorEq, decide_true, decide_false, IntWalk.i64_in, IntWalk.u64_in, IntWalk.u8_in]⟩ ?_
      clear hR ho20 hro5 hl5 hSub h1 h4 h5 h6 h9 h10
      rintro mm a o' nx' ⟨m, q11, hm, rfl, hnx', hSub, hcap, hq11', hq11, ho11, hkp, h1, h4, h5, h6, h9, h10, h11, h63⟩
      have hpre := rowS_pre (f := fS N ss fs) x m L
      have hrl := rowS_len (f := fS N ss fs) x m L
      have hrN := rowS_all (f := fS N ss fs) (fun b => b.length = N) x (fun m => fS_length N ss fs x m) m hLN
      have hx' := pre_get hpre hx
      have hsucc := rowS_next (fS N ss fs) x m L
      by_cases hm5 : m < 5
      · have hSub' := hSub
        obtain ⟨lcs', vS', scs', hR'⟩ := hSub'
        have ho20 := hR'.row
        have hltL : i < (rowS (fS N ss fs) x m L).1.length := (List.getElem?_eq_some_iff.1 hx').1
        generalize hL' : (rowS (fS N ss fs) x m L).1 = L' at *
        generalize hR2 : (rowS (fS N ss fs) x m L).2 = R' at *
        rcases hR'.hs with ⟨_, e, _⟩ | ⟨i6, g6, rfl, hi6, hro6, hl6⟩
        · omega
        have hsl : i < scs'.length := by omega
        have hget := cs_get (s := 1) hsl
        have hgi : (L'.map idxs).getD i [] = idxs x := by simp [List.getD, hx']
        have hH := hR'.ni.2.1 i (by simpa using hltL)
        rw [hgi] at hH
        rcases hH with ⟨e, _, _⟩ | ⟨i7, g7, e7, hi7, hro7, _⟩
        · exact absurd e (hR'.ne _ (getD_mem hsl _))
        rw [e7] at hget
        simp (disch := omega) only [go_sem, ↓IntWalk.iteOmega, IntWalk.toNatUp, Nat.reduceEqDiff, Nat.reduceAdd, Nat.reduceMul, Nat.reduceSub, Nat.reduceLT, Nat.reduceLeDiff, Int.reduceToNat, Int.reduceLT, Int.reduceLE, Int.reduceEq, Int.reduceAdd, Int.reduceSub, Int.reduceMul, Int.toNat_natCast, reduceCtorEq, decide_true, decide_false, IntWalk.i64_in, IntWalk.u64_in, IntWalk.u8_in, nzSub, h1, h4, h5, h6, h9, h10, h11, h63, ho20, hro6, hget]
        refine by_call (by omega) hw hss (hSub.keep (fun _ _ _ _ => rfl) (by omega)) hxN (by omega) hro7 (by omega) ?_
        intro o2 nx2 hle2 hk2
        obtain ⟨t, ht⟩ : ∃ t, t = fS N ss fs x m := ⟨_, rfl⟩
        have hst : stepB N (rowsOf N fs) ss x (m : Int) = t := ht.symm
        have htl : t.length = N := by rw [ht]; exact fS_length N ss fs x m
        rw [← ht] at hsucc
        rw [hst]
        simp (disch := omega) only [go_sem, ↓IntWalk.iteOmega, IntWalk.toNatUp, Nat.reduceEqDiff, Nat.reduceAdd, Nat.reduceMul, Nat.reduceSub, Nat.reduceLT, Nat.reduceLeDiff, Int.reduceToNat, Int.reduceLT, Int.reduceLE, Int.reduceEq, Int.reduceAdd, Int.reduceSub, Int.reduceMul, Int.toNat_natCast, reduceCtorEq, decide_true, decide_false, IntWalk.i64_in, IntWalk.u64_in, IntWalk.u8_in, nzSub, h1, h4, h5, h6, h9, h10, h11, h63]
        refine met_call hN ((hSub.keep (nx' := nx' + 1 + 1 + 1) (fun _ _ _ _ => rfl) (by omega)).keep hk2 (by omega)) hrN (by omega) htl ?_
        intro o3 nx3 hle3 hS3 hk3
        have old : ∀ j k, j < nx' → k ≠ 20 → k ≠ 18 → k ≠ 45 → k ≠ 40 → o3 (j, k) = o' (j, k) := fun j k hj a1 a2 a3 a4 => by
          rw [hk3 j k (by omega) a1 a2 a3 a4, hk2 j k (by omega) a4]
        have ho11' := (old q11 11 hq11 (by decide) (by decide) (by decide) (by decide)).trans ho11
        have ho4' := (old 0 4 (by omega) (by decide) (by decide) (by decide) (by decide)).trans ((hkp 0 4 (by omega) (by decide)).trans ho4)
        have hpos : 1 ≤ (metS L' t).length := by have := (metS_pre L' t).length_le; omega
        have hS3' := hS3
        obtain ⟨lcs3, vS3, scs3, hR3⟩ := hS3'
        have ho20' := hR3.row
        rcases hR3.hs with ⟨_, e, _⟩ | ⟨i8, g8, rfl, hi8, hro8, hl8⟩
        · omega
        have hset : ∀ k : Nat, splice (cI (natI R' ++ List.replicate (5 - m) 0)) m [.int .i64 (k : Int)] = cI (natI (R' ++ [k]) ++ List.replicate (5 - (m + 1)) 0) := fun k => by
          rw [cI_set _ _ _ (by rw [List.length_append, natI_length, List.length_replicate]; omega), natI_app, List.set_append, if_neg (by rw [natI_length]; omega), natI_length, hrl, Nat.sub_self]
          obtain ⟨d, hd⟩ : ∃ d, 5 - m = d + 1 := ⟨4 - m, by omega⟩
          rw [hd, show 5 - (m + 1) = d by omega, List.replicate_succ]
          simp [natI]
        by_cases hbig : (cap : Int) < (metS L' t).length
        · have hnone : subM N S ss fs cap = none := by
            rw [← hB, show 1002 - i = (1001 - i) + 1 by omega, bfsS_succ, hx]
            dsimp only
            rw [if_pos]
            have := (rowS_pre' (f := fS N ss fs) x L (show m + 1 ≤ 5 by omega)).length_le
            rw [hsucc] at this
            dsimp only at this
            omega
          rw [hnone]
          simp (disch := omega) only [go_sem, ↓IntWalk.iteOmega, IntWalk.toNatUp, Nat.reduceEqDiff, Nat.reduceAdd, Nat.reduceMul, Nat.reduceSub, Nat.reduceLT, Nat.reduceLeDiff, Int.reduceToNat, Int.reduceLT, Int.reduceLE, Int.reduceEq, Int.reduceAdd, Int.reduceSub, Int.reduceMul, Int.toNat_natCast, reduceCtorEq, decide_true, decide_false, IntWalk.i64_in, IntWalk.u64_in, IntWalk.u8_in, nzSub, h1, h4, h5, h6, h9, h10, h11, h63, ho11', ho4', ho20', hset, natI_length, hrl, hbig]
          rfl
        · simp (disch := omega) only [go_sem, ↓IntWalk.iteOmega, IntWalk.toNatUp, Nat.reduceEqDiff, Nat.reduceAdd, Nat.reduceMul, Nat.reduceSub, Nat.reduceLT, Nat.reduceLeDiff, Int.reduceToNat, Int.reduceLT, Int.reduceLE, Int.reduceEq, Int.reduceAdd, Int.reduceSub, Int.reduceMul, Int.toNat_natCast, reduceCtorEq, decide_true, decide_false, IntWalk.i64_in, IntWalk.u64_in, IntWalk.u8_in, nzSub, h1, h4, h5, h6, h9, h10, h11, h63, ho11', ho4', ho20', hset, natI_length, hrl, hbig]
          refine ⟨_, ?_, m + 1, q11, by omega, rfl, by omega, ?_, ?_, hq11', by omega, ?_, ?_, rfl, rfl⟩
          · omega
          · rw [hsucc]
            exact hS3.slot (fun j k a1 _ _ _ _ _ => by rw [upd_app, if_neg a1]) (by omega)
          · rw [hsucc]
            show (metS L' t).length ≤ cap
            omega
          · rw [if_pos rfl, hsucc]
          · intro j k hj hk
            rw [if_neg (by omega)]
            exact (old j k (by omega) (by omega) (by omega) (by omega) (by omega)).trans (hkp j k hj hk)
      · have hme : m = 5 := by omega
        subst hme
        have hB' : bfsS (fS N ss fs) cap (1002 - (i + 1)) (i + 1) (rowS (fS N ss fs) x 5 L).1 (R ++ (rowS (fS N ss fs) x 5 L).2) = subM N S ss fs cap := by
          rw [← hB, show 1002 - i = (1002 - (i + 1)) + 1 by omega, bfsS_succ, hx]
          dsimp only
          rw [if_neg (by omega)]
        have hSub' := hSub
        obtain ⟨lcs', vS', scs', hR'⟩ := hSub'
        have ho20 := hR'.row
        have ho17 := hR'.leads
        have hltL : i < (rowS (fS N ss fs) x 5 L).1.length := (List.getElem?_eq_some_iff.1 hx').1
        have hLi : (rowS (fS N ss fs) x 5 L).1.take (i + 1) = L.take i ++ [x] := by
          rw [List.take_add_one, hx']
          obtain ⟨tl, htl⟩ := hpre
          rw [← htl, List.take_append_of_le_length (by omega)]
          rfl
        generalize hL' : (rowS (fS N ss fs) x 5 L).1 = L' at *
        generalize hR2 : (rowS (fS N ss fs) x 5 L).2 = R' at *
        rcases hR'.hs with ⟨_, e, _⟩ | ⟨i6, g6, rfl, hi6, hro6, hl6⟩
        · omega
        have hsl : i < scs'.length := by omega
        have hget := cs_get (s := 1) hsl
        have hgi : (L'.map idxs).getD i [] = idxs x := by simp [List.getD, hx']
        have hH := hR'.ni.2.1 i (by simpa using hltL)
        rw [hgi] at hH
        rcases hH with ⟨e, _, _⟩ | ⟨i7, g7, e7, hi7, hro7, _⟩
        · exact absurd e (hR'.ne _ (getD_mem hsl _))
        rw [e7] at hget
        have ho9' := (hkp q9 9 hq9 (by decide)).trans ho9
        have ho4' := (hkp 0 4 (by omega) (by decide)).trans ho4
        have hvN' := hvN.keep (fun j hj => hkp j 93 hj (by decide)) hnx'
        have hvA' := hvA.keep (fun j hj => hkp j 106 hj (by decide)) hnx'
        have hacc := fun rest => XSub_acc N S F rest (idxs x) (by have := idxs_le x; omega)
        have hdec : decide (F ∈ idxs x) = x.getD F.toNat false := by
          rw [Bool.eq_iff_iff, decide_eq_true_iff, mem_idxs]
          exact ⟨fun ⟨s, hs, hb⟩ => by rw [show F.toNat = s by omega]; exact hb, fun hb => ⟨F.toNat, by omega, hb⟩⟩
        obtain ⟨r0, r1, r2, r3, r4, hRe⟩ : ∃ r0 r1 r2 r3 r4, R' = [r0, r1, r2, r3, r4] := by
          match R', hrl with
          | [a, b, c, d, e], _ => exact ⟨a, b, c, d, e, rfl⟩
        have ho11 : o' (q11, 11) = some (.row ⟨31, 1, (q11, 11), false, true, [.int .i64 r0, .int .i64 r1, .int .i64 r2, .int .i64 r3, .int .i64 r4]⟩) := by
          rw [ho11, hRe]
          rfl
        have hRR : cI (natI (R ++ R')) = cI (natI R) ++ [.int .i64 r0, .int .i64 r1, .int .i64 r2, .int .i64 r3, .int .i64 r4] := by
          rw [natI_app, cI_app, hRe]
          rfl
        have htkR : (cI (natI R)).take (i * 5) = cI (natI R) := take_len (by rw [cI_length, natI_length]; exact hRl)
        have htkA : (cB (accS F (L.take i))).take i = cB (accS F (L.take i)) := take_len (by rw [cB_length, accS_length, List.length_take]; omega)
        have hacs : accS F (L.take i ++ [x]) = accS F (L.take i) ++ [x.getD F.toNat false] := by simp [accS]
        have htks : (scs'.take L'.length) = scs' := take_len (by omega)
        rcases hvN' with ⟨rfl, e1, e2⟩ | ⟨i8, g8, rfl, hi8, hro8, hl8⟩
        · rcases hvA' with ⟨rfl, e3, e4⟩ | ⟨i9, g9, rfl, hi9, hro9, hl9⟩
          · simp (disch := omega) only [go_sem, ↓IntWalk.iteOmega, IntWalk.toNatUp, Nat.reduceEqDiff, Nat.reduceAdd, Nat.reduceMul, Nat.reduceSub, Nat.reduceLT, Nat.reduceLeDiff, Int.reduceToNat, Int.reduceLT, Int.reduceLE, Int.reduceEq, Int.reduceAdd, Int.reduceSub, Int.reduceMul, Int.toNat_natCast, reduceCtorEq, decide_true, decide_false, IntWalk.i64_in, IntWalk.u64_in, IntWalk.u8_in, nzSub, h1, h4, h5, h6, h9, h10, h11, h63, ho11, ho9', ho4', ho20, ho17, hro6, hro7, hget, hacc, hdec]
            refine ⟨_, ?_, i + 1, L', R ++ R', q9, _, _, hB', rfl, by omega, by omega, hcap, by rw [List.length_append, hRl, hrl]; omega, hrN, hSub.slot (fun j k a1 a2 a3 a4 a5 a6 => by simp [upd_app, a1, a2, a3, a4, a5, a6]) (by omega), by omega, by rw [if_pos rfl], .inr ⟨nx' + 1, (nx' + 1, 93), by rw [e1], by omega, ?_, ?_⟩, .inr ⟨nx' + 1, (nx' + 1, 106), by rw [e3], by omega, ?_, ?_⟩, rfl, rfl⟩
            · omega
            · rw [hRR, e2]
              simp (disch := omega) only [go_sem, ↓IntWalk.iteOmega, IntWalk.toNatUp, Nat.reduceEqDiff, Nat.reduceAdd, Nat.reduceMul, Nat.reduceSub, Nat.reduceLT, Nat.reduceLeDiff, Int.reduceToNat, Int.reduceLT, Int.reduceLE, Int.reduceEq, Int.reduceAdd, Int.reduceSub, Int.reduceMul, Int.toNat_natCast, reduceCtorEq, decide_true, decide_false, IntWalk.i64_in, IntWalk.u64_in, IntWalk.u8_in]
            · rw [cI_length, natI_length, List.length_append, hRl, hrl]; omega
            · rw [hLi, hacs, cB_app, e4]
              simp (disch := omega) only [go_sem, ↓IntWalk.iteOmega, IntWalk.toNatUp, Nat.reduceEqDiff, Nat.reduceAdd, Nat.reduceMul, Nat.reduceSub, Nat.reduceLT, Nat.reduceLeDiff, Int.reduceToNat, Int.reduceLT, Int.reduceLE, Int.reduceEq, Int.reduceAdd, Int.reduceSub, Int.reduceMul, Int.toNat_natCast, reduceCtorEq, decide_true, decide_false, IntWalk.i64_in, IntWalk.u64_in, IntWalk.u8_in]
              rfl
            · rw [cB_length, accS_length, List.length_take]; omega
          · simp (disch := omega) only [go_sem, ↓IntWalk.iteOmega, IntWalk.toNatUp, Nat.reduceEqDiff, Nat.reduceAdd, Nat.reduceMul, Nat.reduceSub, Nat.reduceLT, Nat.reduceLeDiff, Int.reduceToNat, Int.reduceLT, Int.reduceLE, Int.reduceEq, Int.reduceAdd, Int.reduceSub, Int.reduceMul, Int.toNat_natCast, reduceCtorEq, decide_true, decide_false, IntWalk.i64_in, IntWalk.u64_in, IntWalk.u8_in, nzSub, h1, h4, h5, h6, h9, h10, h11, h63, ho11, ho9', ho4', ho20, ho17, hro6, hro7, hget, hacc, hdec, natI_length, accS_length, List.length_take, hro9, htkA]
            refine ⟨_, ?_, i + 1, L', R ++ R', q9, _, _, hB', rfl, by omega, by omega, hcap, by rw [List.length_append, hRl, hrl]; omega, hrN, hSub.slot (fun j k a1 a2 a3 a4 a5 a6 => by simp [upd_app, a1, a2, a3, a4, a5, a6]) (by omega), by omega, by rw [if_pos rfl], .inr ⟨nx' + 1, (nx' + 1, 93), by rw [e1], by omega, ?_, ?_⟩, .inr ⟨i9, (nx' + 1, 106), rfl, by omega, ?_, ?_⟩, rfl, rfl⟩
            · omega
            · rw [hRR, e2]
              simp (disch := omega) only [go_sem, ↓IntWalk.iteOmega, IntWalk.toNatUp, Nat.reduceEqDiff, Nat.reduceAdd, Nat.reduceMul, Nat.reduceSub, Nat.reduceLT, Nat.reduceLeDiff, Int.reduceToNat, Int.reduceLT, Int.reduceLE, Int.reduceEq, Int.reduceAdd, Int.reduceSub, Int.reduceMul, Int.toNat_natCast, reduceCtorEq, decide_true, decide_false, IntWalk.i64_in, IntWalk.u64_in, IntWalk.u8_in]
            · rw [cI_length, natI_length, List.length_append, hRl, hrl]; omega
            · rw [hLi, hacs, cB_app]
              simp (disch := omega) only [go_sem, ↓IntWalk.iteOmega, IntWalk.toNatUp, Nat.reduceEqDiff, Nat.reduceAdd, Nat.reduceMul, Nat.reduceSub, Nat.reduceLT, Nat.reduceLeDiff, Int.reduceToNat, Int.reduceLT, Int.reduceLE, Int.reduceEq, Int.reduceAdd, Int.reduceSub, Int.reduceMul, Int.toNat_natCast, reduceCtorEq, decide_true, decide_false, IntWalk.i64_in, IntWalk.u64_in, IntWalk.u8_in]
              rfl
            · rw [cB_length, accS_length, List.length_take]; omega
        · rcases hvA' with ⟨rfl, e3, e4⟩ | ⟨i9, g9, rfl, hi9, hro9, hl9⟩
          · simp (disch := omega) only [go_sem, ↓IntWalk.iteOmega, IntWalk.toNatUp, Nat.reduceEqDiff, Nat.reduceAdd, Nat.reduceMul, Nat.reduceSub, Nat.reduceLT, Nat.reduceLeDiff, Int.reduceToNat, Int.reduceLT, Int.reduceLE, Int.reduceEq, Int.reduceAdd, Int.reduceSub, Int.reduceMul, Int.toNat_natCast, reduceCtorEq, decide_true, decide_false, IntWalk.i64_in, IntWalk.u64_in, IntWalk.u8_in, nzSub, h1, h4, h5, h6, h9, h10, h11, h63, ho11, ho9', ho4', ho20, ho17, hro6, hro7, hget, hacc, hdec, natI_length, accS_length, List.length_take, hro8, htkR]
            refine ⟨_, ?_, i + 1, L', R ++ R', q9, _, _, hB', rfl, by omega, by omega, hcap, by rw [List.length_append, hRl, hrl]; omega, hrN, hSub.slot (fun j k a1 a2 a3 a4 a5 a6 => by simp [upd_app, a1, a2, a3, a4, a5, a6]) (by omega), by omega, by rw [if_pos rfl], .inr ⟨i8, (nx' + 1, 93), rfl, by omega, ?_, ?_⟩, .inr ⟨nx' + 1, (nx' + 1, 106), by rw [e3], by omega, ?_, ?_⟩, rfl, rfl⟩
            · omega
            · rw [hRR]
              simp (disch := omega) only [go_sem, ↓IntWalk.iteOmega, IntWalk.toNatUp, Nat.reduceEqDiff, Nat.reduceAdd, Nat.reduceMul, Nat.reduceSub, Nat.reduceLT, Nat.reduceLeDiff, Int.reduceToNat, Int.reduceLT, Int.reduceLE, Int.reduceEq, Int.reduceAdd, Int.reduceSub, Int.reduceMul, Int.toNat_natCast, reduceCtorEq, decide_true, decide_false, IntWalk.i64_in, IntWalk.u64_in, IntWalk.u8_in]
            · rw [cI_length, natI_length, List.length_append, hRl, hrl]; omega
            · rw [hLi, hacs, cB_app, e4]
              simp (disch := omega) only [go_sem, ↓IntWalk.iteOmega, IntWalk.toNatUp, Nat.reduceEqDiff, Nat.reduceAdd, Nat.reduceMul, Nat.reduceSub, Nat.reduceLT, Nat.reduceLeDiff, Int.reduceToNat, Int.reduceLT, Int.reduceLE, Int.reduceEq, Int.reduceAdd, Int.reduceSub, Int.reduceMul, Int.toNat_natCast, reduceCtorEq, decide_true, decide_false, IntWalk.i64_in, IntWalk.u64_in, IntWalk.u8_in]
              rfl
            · rw [cB_length, accS_length, List.length_take]; omega
          · simp (disch := omega) only [go_sem, ↓IntWalk.iteOmega, IntWalk.toNatUp, Nat.reduceEqDiff, Nat.reduceAdd, Nat.reduceMul, Nat.reduceSub, Nat.reduceLT, Nat.reduceLeDiff, Int.reduceToNat, Int.reduceLT, Int.reduceLE, Int.reduceEq, Int.reduceAdd, Int.reduceSub, Int.reduceMul, Int.toNat_natCast, reduceCtorEq, decide_true, decide_false, IntWalk.i64_in, IntWalk.u64_in, IntWalk.u8_in, nzSub, h1, h4, h5, h6, h9, h10, h11, h63, ho11, ho9', ho4', ho20, ho17, hro6, hro7, hget, hacc, hdec, natI_length, accS_length, List.length_take, hro8, htkR, hro9, htkA]
            refine ⟨_, ?_, i + 1, L', R ++ R', q9, _, _, hB', rfl, by omega, by omega, hcap, by rw [List.length_append, hRl, hrl]; omega, hrN, hSub.slot (fun j k a1 a2 a3 a4 a5 a6 => by simp [upd_app, a1, a2, a3, a4, a5, a6]) (by omega), by omega, by rw [if_pos rfl], .inr ⟨i8, (nx' + 1, 93), rfl, by omega, ?_, ?_⟩, .inr ⟨i9, (nx' + 1, 106), rfl, by omega, ?_, ?_⟩, rfl, rfl⟩
            · omega
            · rw [hRR]
              simp (disch := omega) only [go_sem, ↓IntWalk.iteOmega, IntWalk.toNatUp, Nat.reduceEqDiff, Nat.reduceAdd, Nat.reduceMul, Nat.reduceSub, Nat.reduceLT, Nat.reduceLeDiff, Int.reduceToNat, Int.reduceLT, Int.reduceLE, Int.reduceEq, Int.reduceAdd, Int.reduceSub, Int.reduceMul, Int.toNat_natCast, reduceCtorEq, decide_true, decide_false, IntWalk.i64_in, IntWalk.u64_in, IntWalk.u8_in]
            · rw [cI_length, natI_length, List.length_append, hRl, hrl]; omega
            · rw [hLi, hacs, cB_app]
              simp (disch := omega) only [go_sem, ↓IntWalk.iteOmega, IntWalk.toNatUp, Nat.reduceEqDiff, Nat.reduceAdd, Nat.reduceMul, Nat.reduceSub, Nat.reduceLT, Nat.reduceLeDiff, Int.reduceToNat, Int.reduceLT, Int.reduceLE, Int.reduceEq, Int.reduceAdd, Int.reduceSub, Int.reduceMul, Int.toNat_natCast, reduceCtorEq, decide_true, decide_false, IntWalk.i64_in, IntWalk.u64_in, IntWalk.u8_in]
              rfl
            · rw [cB_length, accS_length, List.length_take]; omega
    · have hie : i = L.length := by omega
      subst hie
      rcases hLs with ⟨rfl, e, _⟩ | ⟨i5, g5, rfl, hi5, hro5, hl5⟩
      · omega
      rcases hvN with ⟨_, e, _⟩ | ⟨i8, g8, rfl, hi8, hro8, hl8⟩
      · omega
      rcases hvA with ⟨_, e, _⟩ | ⟨i9, g9, rfl, hi9, hro9, hl9⟩
      · omega
      rw [List.take_length] at hro9 hl9
      have hRn : (natI R).length = L.length * 5 := by rw [natI_length]; exact hRl
      have htkR : (cI (natI R)).take (L.length * 5) = cI (natI R) := take_len (by rw [cI_length]; exact hRn)
      have hAn : (accS F L).length = L.length := accS_length F L
      have htkA : (cB (accS F L)).take L.length = cB (accS F L) := take_len (by rw [cB_length]; exact hAn)
      have hz5 : (rep [AV.int .i64 0, .int .i64 0, .int .i64 0, .int .i64 0, .int .i64 0] L.length).length = L.length * 5 := by
        rw [rep_flat]; simp
      have hzA : (cB (List.replicate L.length false)).drop L.length = [] := by simp [cB]
      have hz6 : (rep [AV.int .i64 0, .int .i64 0, .int .i64 0, .int .i64 0, .int .i64 0] L.length).drop (L.length * 5) = [] := List.drop_of_length_le (by omega)
      have hfin : subM N S ss fs cap = some (L, R) := by
        rw [← hB, show 1002 - L.length = (1001 - L.length) + 1 by omega, bfsS_succ, List.getElem?_eq_none (Nat.le_refl _)]
      rw [hfin]
      simp (disch := omega) only [go_sem, ↓IntWalk.iteOmega, IntWalk.toNatUp, Nat.reduceEqDiff, Nat.reduceAdd, Nat.reduceMul, Nat.reduceSub, Nat.reduceLT, Nat.reduceLeDiff, Int.reduceToNat, Int.reduceLT, Int.reduceLE, Int.reduceEq, Int.reduceAdd, Int.reduceSub, Int.reduceMul, Int.toNat_natCast, reduceCtorEq, decide_true, decide_false, IntWalk.i64_in, IntWalk.u64_in, IntWalk.u8_in, nzSub, h1, h4, h5, h6, h9, h10, ho20, ho9, ho4, hro8, hro9, hRn, htkR, hAn, htkA, hz5, hzA, hz6, rep_bool]
      show _ = AV.tup [.agg [.sl L.length (cI (natI R)), .sl (accS F L).length (cB (accS F L))], .int .i64 0]
      rw [accS_length]
theorem sub_ok (N : Nat) (S F : Int) (ss fs) (hN : N ≤ 1000) (hw : Wf N S F ss fs) (hss : ss.length ≤ 1000) (cap : Nat) (hc1 : 1 ≤ cap) (hc2 : cap ≤ 1000) : Ok Tryd.prog 24 [nfaV N S F ss fs, .int .i64 cap] (subV F (subM N S ss fs cap)) := by
  refine ok_of_WP (E := EX md0 XSub) (cr := crSub) XSub_ok crSub_ok mixed (k := 1003) Tryd.func24 (lookSub _) rfl (WP_mono (sub_wp N S F ss fs hN hw hss cap hc1 hc2) ?_)
  rintro u a o nx ⟨rfl, h⟩
  refine ⟨.inr rfl, ?_⟩
  simp only [Tryd.f24, resultsL_cons, resultsL_nil, result1_cell, result1_tmp]
  cases hl : aLoad Tryd.prog 25 (a 4) ⟨o, nx⟩ with
  | none =>
    rw [hl] at h
    cases hm : subM N S ss fs cap with
    | none =>
      rw [hm] at h
      simp [vDepth, view, subV, noneV, view0] at h
    | some p =>
      rw [hm] at h
      simp [vDepth, view, subV, dfaV, view0] at h
  | some v =>
    rw [hl] at h
    rw [show aLoad (EX md0 XSub).P 25 (a 4) ⟨o, nx⟩ = some v from hl]
    exact h
end Go.Proofs.YtbapebepmbikhaaDoor.A
/- Machines of one way out of machines of many: the document's same, find, Same. -/
namespace Go.Proofs.YtbapebepmbikhaaDoor.A
open Go
set_option maxRecDepth 20000
theorem lookSm (X) : lookedAt (EX md0 X) (fun _ => none) 2 Tryd.f51 = true := by kernel_rfl
theorem same_ok (x y : List Bool) (hl : x.length = y.length) (hx : x.length ≤ 100000) : Ok Tryd.prog 51 [slB x, slB y] (.bool (decide (x = y))) := by
  refine ok_of_WP (E := EX md0 (fun _ _ => none)) (cr := noR) (tab_nil _) (noR_ok _) mixed (k := x.length + 1) Tryd.func51 (lookSm _) rfl ?_
  simp only [Tryd.f51, Option.getD_some]
  simp (disch := omega) only [go_sem, ↓IntWalk.iteOmega, IntWalk.toNatUp, Nat.reduceEqDiff, Nat.reduceAdd, Nat.reduceMul, Nat.reduceSub, Nat.reduceLT, Nat.reduceLeDiff, Int.reduceToNat, Int.reduceLT, Int.reduceLE, Int.reduceEq, Int.reduceAdd, Int.reduceSub, Int.reduceMul, Int.toNat_natCast, reduceCtorEq, decide_true, decide_false, IntWalk.i64_in, IntWalk.u64_in, IntWalk.u8_in]
  refine WP_loop (fun m a o nx => ∃ i, i ≤ x.length ∧ m = x.length - i ∧ x.take i = y.take i ∧ a 0 = slB x ∧ a 1 = slB y ∧ a 5 = .int .i64 i) x.length (by omega) ⟨0, by omega, by omega, rfl, by simp (disch := omega) only [go_sem, ↓IntWalk.iteOmega, IntWalk.toNatUp, Nat.reduceEqDiff, Nat.reduceAdd, Nat.reduceMul, Nat.reduceSub, Nat.reduceLT, Nat.reduceLeDiff, Int.reduceToNat, Int.reduceLT, Int.reduceLE, Int.reduceEq, Int.reduceAdd, Int.reduceSub, Int.reduceMul, Int.toNat_natCast, reduceCtorEq, decide_true, decide_false, IntWalk.i64_in, IntWalk.u64_in, IntWalk.u8_in], by simp (disch := omega) only [go_sem, ↓IntWalk.iteOmega, IntWalk.toNatUp, Nat.reduceEqDiff, Nat.reduceAdd, Nat.reduceMul, Nat.reduceSub, Nat.reduceLT, Nat.reduceLeDiff, Int.reduceToNat, Int.reduceLT, Int.reduceLE, Int.reduceEq, Int.reduceAdd, Int.reduceSub, Int.reduceMul, Int.toNat_natCast, reduceCtorEq, decide_true, decide_false, IntWalk.i64_in, IntWalk.u64_in, IntWalk.u8_in], by simp (disch := omega) only [go_sem, ↓IntWalk.iteOmega, IntWalk.toNatUp, Nat.reduceEqDiff, Nat.reduceAdd, Nat.reduceMul, Nat.reduceSub, Nat.reduceLT, Nat.reduceLeDiff, Int.reduceToNat, Int.reduceLT, Int.reduceLE, Int.reduceEq, Int.reduceAdd, Int.reduceSub, Int.reduceMul, Int.toNat_natCast, reduceCtorEq, decide_true, decide_false, IntWalk.i64_in, IntWalk.u64_in, IntWalk.u8_in]⟩ ?_
  rintro m a o nx ⟨i, hi, rfl, htk, h0, h1, h5⟩
  by_cases hlt : i < x.length
  · have hat := cB_get (s := 1) hlt
    have hat2 := cB_get (l := y) (i := i) (s := 1) (by omega)
    have hs1 := take_succ_getD hlt false
    have hs2 := take_succ_getD (l := y) (i := i) (by omega) false
    generalize hp : x.getD i false = p at hat hs1
    generalize hq : y.getD i false = q at hat2 hs2
    by_cases hpq : p = q
    · have hbe : (p == q) = true := by rw [hpq]; exact beq_self_eq_true _
      simp (disch := omega) only [go_sem, ↓IntWalk.iteOmega, IntWalk.toNatUp, Nat.reduceEqDiff, Nat.reduceAdd, Nat.reduceMul, Nat.reduceSub, Nat.reduceLT, Nat.reduceLeDiff, Int.reduceToNat, Int.reduceLT, Int.reduceLE, Int.reduceEq, Int.reduceAdd, Int.reduceSub, Int.reduceMul, Int.toNat_natCast, reduceCtorEq, decide_true, decide_false, IntWalk.i64_in, IntWalk.u64_in, IntWalk.u8_in, h0, h1, h5, hat, hat2, hbe]
      exact ⟨_, by omega, i + 1, by omega, rfl, by rw [hs1, hs2, htk, hpq], rfl⟩
    · have hbe : (p == q) = false := beq_false_of_ne hpq
      rw [decide_eq_false (fun e => hpq (by rw [← hp, ← hq, e]))]
      simp (disch := omega) only [go_sem, ↓IntWalk.iteOmega, IntWalk.toNatUp, Nat.reduceEqDiff, Nat.reduceAdd, Nat.reduceMul, Nat.reduceSub, Nat.reduceLT, Nat.reduceLeDiff, Int.reduceToNat, Int.reduceLT, Int.reduceLE, Int.reduceEq, Int.reduceAdd, Int.reduceSub, Int.reduceMul, Int.toNat_natCast, reduceCtorEq, decide_true, decide_false, IntWalk.i64_in, IntWalk.u64_in, IntWalk.u8_in, h0, h1, h5, hat, hat2, hbe]
  · rw [decide_eq_true (by rw [← List.take_of_length_le (l := x) (i := i) (by omega), htk, List.take_of_length_le (by omega)])]
    simp (disch := omega) only [go_sem, ↓IntWalk.iteOmega, IntWalk.toNatUp, Nat.reduceEqDiff, Nat.reduceAdd, Nat.reduceMul, Nat.reduceSub, Nat.reduceLT, Nat.reduceLeDiff, Int.reduceToNat, Int.reduceLT, Int.reduceLE, Int.reduceEq, Int.reduceAdd, Int.reduceSub, Int.reduceMul, Int.toNat_natCast, reduceCtorEq, decide_true, decide_false, IntWalk.i64_in, IntWalk.u64_in, IntWalk.u8_in, h0, h1, h5]
def RSm (args : List AV) (r : AV) : Prop := ∃ x y : List Bool, x.length = y.length ∧ x.length ≤ 100000 ∧ args = [slB x, slB y] ∧ r = .bool (decide (x = y))
theorem RSm_fn : Fun1 RSm := by
  rintro args r r' ⟨x, y, _, _, rfl, rfl⟩ ⟨x', y', _, _, h, rfl⟩
  simp only [List.cons.injEq, and_true] at h
  rw [slB_inj h.1, slB_inj h.2]
theorem RSm_ok (args r) (h : RSm args r) : Ok Tryd.prog 51 args r := by obtain ⟨x, y, h1, h2, rfl, rfl⟩ := h; exact same_ok x y h1 h2
noncomputable def XSm : FuncId → List AV → Option AV := tabLook [(51, tRel RSm)]
theorem XSm_ok : CPSound Tryd.prog XSm := tab_cons (tab_nil _) (tRel_ok RSm_ok)
theorem XSm_eq {x y : List Bool} (h1 : x.length = y.length) (h2 : x.length ≤ 100000) : XSm 51 [slB x, slB y] = some (.bool (decide (x = y))) := tRel_eq (R := RSm) RSm_fn ⟨x, y, h1, h2, rfl, rfl⟩
/-- A set's place; -1: it is not there. -/
def findI (L : List (List Bool)) (t : List Bool) : Int := if t ∈ L then (L.idxOf t : Int) else -1
theorem lookFind (X) : lookedAt (EX md0 X) (fun _ => none) 2 Tryd.f41 = true := by kernel_rfl
theorem bools_get {L : List (List Bool)} {i : Nat} (h : i < L.length) : take1 false 1 ((L.map slB).drop i) = some (slB (L.getD i [])) := by
  rw [take1_drop (by simpa using h)]
  simp [List.getD, h]
theorem find_ok (L : List (List Bool)) (t : List Bool) (hL : ∀ b ∈ L, b.length = t.length) (h1 : L.length ≤ 100000) (h2 : t.length ≤ 100000) : Ok Tryd.prog 41 [.sl L.length (L.map slB), slB t] (.int .i64 (findI L t)) := by
  refine ok_of_WP (E := EX md0 XSm) (cr := noR) XSm_ok (noR_ok _) mixed (k := L.length + 1) Tryd.func41 (lookFind _) rfl ?_
  simp only [Tryd.f41, Option.getD_some]
  simp (disch := omega) only [go_sem, ↓IntWalk.iteOmega, IntWalk.toNatUp, Nat.reduceEqDiff, Nat.reduceAdd, Nat.reduceMul, Nat.reduceSub, Nat.reduceLT, Nat.reduceLeDiff, Int.reduceToNat, Int.reduceLT, Int.reduceLE, Int.reduceEq, Int.reduceAdd, Int.reduceSub, Int.reduceMul, Int.toNat_natCast, reduceCtorEq, decide_true, decide_false, IntWalk.i64_in, IntWalk.u64_in, IntWalk.u8_in]
  refine WP_loop (fun m a o nx => ∃ i, i ≤ L.length ∧ m = L.length - i ∧ t ∉ L.take i ∧ a 0 = .sl L.length (L.map slB) ∧ a 1 = slB t ∧ a 5 = .int .i64 i) L.length (by omega) ⟨0, by omega, by omega, by simp, by simp (disch := omega) only [go_sem, ↓IntWalk.iteOmega, IntWalk.toNatUp, Nat.reduceEqDiff, Nat.reduceAdd, Nat.reduceMul, Nat.reduceSub, Nat.reduceLT, Nat.reduceLeDiff, Int.reduceToNat, Int.reduceLT, Int.reduceLE, Int.reduceEq, Int.reduceAdd, Int.reduceSub, Int.reduceMul, Int.toNat_natCast, reduceCtorEq, decide_true, decide_false, IntWalk.i64_in, IntWalk.u64_in, IntWalk.u8_in], by simp (disch := omega) only [go_sem, ↓IntWalk.iteOmega, IntWalk.toNatUp, Nat.reduceEqDiff, Nat.reduceAdd, Nat.reduceMul, Nat.reduceSub, Nat.reduceLT, Nat.reduceLeDiff, Int.reduceToNat, Int.reduceLT, Int.reduceLE, Int.reduceEq, Int.reduceAdd, Int.reduceSub, Int.reduceMul, Int.toNat_natCast, reduceCtorEq, decide_true, decide_false, IntWalk.i64_in, IntWalk.u64_in, IntWalk.u8_in], by simp (disch := omega) only [go_sem, ↓IntWalk.iteOmega, IntWalk.toNatUp, Nat.reduceEqDiff, Nat.reduceAdd, Nat.reduceMul, Nat.reduceSub, Nat.reduceLT, Nat.reduceLeDiff, Int.reduceToNat, Int.reduceLT, Int.reduceLE, Int.reduceEq, Int.reduceAdd, Int.reduceSub, Int.reduceMul, Int.toNat_natCast, reduceCtorEq, decide_true, decide_false, IntWalk.i64_in, IntWalk.u64_in, IntWalk.u8_in]⟩ ?_
  rintro m a o nx ⟨i, hi, rfl, hni, h0, h1', h5⟩
  by_cases hlt : i < L.length
  · have hat := bools_get hlt
    have hmem := getD_mem hlt []
    have htk := take_succ_getD hlt []
    generalize hp : L.getD i [] = b at hat hmem htk
    have hsm := XSm_eq (x := b) (y := t) (hL b hmem) (by rw [hL b hmem]; exact h2)
    by_cases hbt : b = t
    · rw [decide_eq_true hbt] at hsm
      have hidx : L.idxOf t = i := by
        have e : L = L.take i ++ t :: L.drop (i + 1) := by
          have : L.drop i = b :: L.drop (i + 1) := by
            rw [List.drop_eq_getElem_cons hlt]
            congr 1
            rw [← hp]; simp [List.getD, hlt]
          rw [← hbt, ← this, List.take_append_drop]
        rw [e, List.idxOf_append, if_neg hni, List.idxOf_cons_self, List.length_take]
        omega
      have hf : findI L t = i := by
        unfold findI
        rw [if_pos (hbt ▸ hmem), hidx]
      rw [hf]
      simp (disch := omega) only [go_sem, ↓IntWalk.iteOmega, IntWalk.toNatUp, Nat.reduceEqDiff, Nat.reduceAdd, Nat.reduceMul, Nat.reduceSub, Nat.reduceLT, Nat.reduceLeDiff, Int.reduceToNat, Int.reduceLT, Int.reduceLE, Int.reduceEq, Int.reduceAdd, Int.reduceSub, Int.reduceMul, Int.toNat_natCast, reduceCtorEq, decide_true, decide_false, IntWalk.i64_in, IntWalk.u64_in, IntWalk.u8_in, h0, h1', h5, hat, hsm]
    · rw [decide_eq_false hbt] at hsm
      simp (disch := omega) only [go_sem, ↓IntWalk.iteOmega, IntWalk.toNatUp, Nat.reduceEqDiff, Nat.reduceAdd, Nat.reduceMul, Nat.reduceSub, Nat.reduceLT, Nat.reduceLeDiff, Int.reduceToNat, Int.reduceLT, Int.reduceLE, Int.reduceEq, Int.reduceAdd, Int.reduceSub, Int.reduceMul, Int.toNat_natCast, reduceCtorEq, decide_true, decide_false, IntWalk.i64_in, IntWalk.u64_in, IntWalk.u8_in, h0, h1', h5, hat, hsm]
      refine ⟨_, by omega, i + 1, by omega, rfl, ?_, rfl⟩
      rw [htk, List.mem_append, List.mem_singleton]
      rintro (h | h)
      · exact hni h
      · exact hbt h.symm
  · rw [List.take_of_length_le (by omega)] at hni
    have hf : findI L t = -1 := if_neg hni
    rw [hf]
    simp (disch := omega) only [go_sem, ↓IntWalk.iteOmega, IntWalk.toNatUp, Nat.reduceEqDiff, Nat.reduceAdd, Nat.reduceMul, Nat.reduceSub, Nat.reduceLT, Nat.reduceLeDiff, Int.reduceToNat, Int.reduceLT, Int.reduceLE, Int.reduceEq, Int.reduceAdd, Int.reduceSub, Int.reduceMul, Int.toNat_natCast, reduceCtorEq, decide_true, decide_false, IntWalk.i64_in, IntWalk.u64_in, IntWalk.u8_in, h0, h1', h5]
def RFind (args : List AV) (r : AV) : Prop := ∃ (L : List (List Bool)) (t : List Bool), (∀ b ∈ L, b.length = t.length) ∧ L.length ≤ 100000 ∧ t.length ≤ 100000 ∧ args = [.sl L.length (L.map slB), slB t] ∧ r = .int .i64 (findI L t)
theorem slBs_inj {x y : List (List Bool)} (h : x.map slB = y.map slB) : x = y := List.map_inj_right (fun a b h => slB_inj h) |>.1 h
theorem RFind_fn : Fun1 RFind := by
  rintro args r r' ⟨L, t, _, _, _, rfl, rfl⟩ ⟨L', t', _, _, _, h, rfl⟩
  simp only [List.cons.injEq, AV.sl.injEq, and_true] at h
  rw [slBs_inj h.1.2, cB_inj h.2.2]
theorem RFind_ok (args r) (h : RFind args r) : Ok Tryd.prog 41 args r := by obtain ⟨L, t, h1, h2, h3, rfl, rfl⟩ := h; exact find_ok L t h1 h2 h3
/-! ### Same -/
theorem lookSm7 (X) : lookedAt (EX md0 X) (fun _ => none) 2 Tryd.f26 = true := by kernel_rfl
theorem cI_at5 {N : List Int} {i n : Nat} (hN : N.length = 5 * n) (h : i < n) : ∃ r0 r1 r2 r3 r4 rest, (cI N).drop (i * 5) = .int .i64 r0 :: .int .i64 r1 :: .int .i64 r2 :: .int .i64 r3 :: .int .i64 r4 :: rest := by
  rw [cI_drop]
  have hl : 5 ≤ (N.drop (i * 5)).length := by rw [List.length_drop]; omega
  match N.drop (i * 5), hl with
  | a :: b :: c :: d :: e :: l, _ => exact ⟨a, b, c, d, e, cI l, rfl⟩
theorem ne5 (a b c d e : Int) : aBin Tryd.prog .neq 31 (.agg [.int .i64 a, .int .i64 b, .int .i64 c, .int .i64 d, .int .i64 e]) (.agg [.int .i64 a, .int .i64 b, .int .i64 c, .int .i64 d, .int .i64 e]) = some (.bool false) := by
  unfold aBin
  dsimp only
  rw [T31lf]
  simp [eqLeafs, eqLeaf]
theorem same7_ok (n : Nat) (N : List Int) (A : List Bool) (hN : N.length = 5 * n) (hA : A.length = n) (hn : n ≤ 100000) : Ok Tryd.prog 26 [dfaV n N A, dfaV n N A] (.bool true) := by
  refine ok_of_WP (E := EX md0 (fun _ _ => none)) (cr := noR) (tab_nil _) (noR_ok _) mixed (k := n + 1) Tryd.func26 (lookSm7 _) rfl ?_
  simp only [Tryd.f26, Option.getD_some]
  simp (disch := omega) only [go_sem, ↓IntWalk.iteOmega, IntWalk.toNatUp, Nat.reduceEqDiff, Nat.reduceAdd, Nat.reduceMul, Nat.reduceSub, Nat.reduceLT, Nat.reduceLeDiff, Int.reduceToNat, Int.reduceLT, Int.reduceLE, Int.reduceEq, Int.reduceAdd, Int.reduceSub, Int.reduceMul, Int.toNat_natCast, reduceCtorEq, decide_true, decide_false, IntWalk.i64_in, IntWalk.u64_in, IntWalk.u8_in]
  refine WP_loop (fun m a o nx => ∃ i, i ≤ n ∧ m = n - i ∧ a 2 = .ptr (0, 2) (0, 2) 0 ∧ a 3 = .ptr (0, 3) (0, 3) 0 ∧ a 5 = .int .i64 i ∧ o (0, 2) = some (.row ⟨25, 1, (0, 2), false, true, [.sl n (cI N), slB A]⟩) ∧ o (0, 3) = some (.row ⟨25, 1, (0, 3), false, true, [.sl n (cI N), slB A]⟩)) n (by omega) ⟨0, by omega, by omega, by simp (disch := omega) only [go_sem, ↓IntWalk.iteOmega, IntWalk.toNatUp, Nat.reduceEqDiff, Nat.reduceAdd, Nat.reduceMul, Nat.reduceSub, Nat.reduceLT, Nat.reduceLeDiff, Int.reduceToNat, Int.reduceLT, Int.reduceLE, Int.reduceEq, Int.reduceAdd, Int.reduceSub, Int.reduceMul, Int.toNat_natCast, reduceCtorEq, decide_true, decide_false, IntWalk.i64_in, IntWalk.u64_in, IntWalk.u8_in], by simp (disch := omega) only [go_sem, ↓IntWalk.iteOmega, IntWalk.toNatUp, Nat.reduceEqDiff, Nat.reduceAdd, Nat.reduceMul, Nat.reduceSub, Nat.reduceLT, Nat.reduceLeDiff, Int.reduceToNat, Int.reduceLT, Int.reduceLE, Int.reduceEq, Int.reduceAdd, Int.reduceSub, Int.reduceMul, Int.toNat_natCast, reduceCtorEq, decide_true, decide_false, IntWalk.i64_in, IntWalk.u64_in, IntWalk.u8_in], by simp (disch := omega) only [go_sem, ↓IntWalk.iteOmega, IntWalk.toNatUp, Nat.reduceEqDiff, Nat.reduceAdd, Nat.reduceMul, Nat.reduceSub, Nat.reduceLT, Nat.reduceLeDiff, Int.reduceToNat, Int.reduceLT, Int.reduceLE, Int.reduceEq, Int.reduceAdd, Int.reduceSub, Int.reduceMul, Int.toNat_natCast, reduceCtorEq, decide_true, decide_false, IntWalk.i64_in, IntWalk.u64_in, IntWalk.u8_in], by simp (disch := omega) only [go_sem, ↓IntWalk.iteOmega, IntWalk.toNatUp, Nat.reduceEqDiff, Nat.reduceAdd, Nat.reduceMul, Nat.reduceSub, Nat.reduceLT, Nat.reduceLeDiff, Int.reduceToNat, Int.reduceLT, Int.reduceLE, Int.reduceEq, Int.reduceAdd, Int.reduceSub, Int.reduceMul, Int.toNat_natCast, reduceCtorEq, decide_true, decide_false, IntWalk.i64_in, IntWalk.u64_in, IntWalk.u8_in], by simp (disch := omega) only [go_sem, ↓IntWalk.iteOmega, IntWalk.toNatUp, Nat.reduceEqDiff, Nat.reduceAdd, Nat.reduceMul, Nat.reduceSub, Nat.reduceLT, Nat.reduceLeDiff, Int.reduceToNat, Int.reduceLT, Int.reduceLE, Int.reduceEq, Int.reduceAdd, Int.reduceSub, Int.reduceMul, Int.toNat_natCast, reduceCtorEq, decide_true, decide_false, IntWalk.i64_in, IntWalk.u64_in, IntWalk.u8_in]⟩ ?_
  rintro m a o nx ⟨i, hi, rfl, h2, h3, h5, ho2, ho3⟩
  by_cases hlt : i < n
  · obtain ⟨r0, r1, r2, r3, r4, rest, hat⟩ := cI_at5 hN hlt
    have hne := ne5 r0 r1 r2 r3 r4
    have hat2 := cB_get (l := A) (i := i) (s := 1) (by omega)
    have hbe : (A.getD i false == A.getD i false) = true := beq_self_eq_true _
    generalize A.getD i false = p at hat2 hbe
    simp (disch := omega) only [go_sem, ↓IntWalk.iteOmega, IntWalk.toNatUp, Nat.reduceEqDiff, Nat.reduceAdd, Nat.reduceMul, Nat.reduceSub, Nat.reduceLT, Nat.reduceLeDiff, Int.reduceToNat, Int.reduceLT, Int.reduceLE, Int.reduceEq, Int.reduceAdd, Int.reduceSub, Int.reduceMul, Int.toNat_natCast, reduceCtorEq, decide_true, decide_false, IntWalk.i64_in, IntWalk.u64_in, IntWalk.u8_in, h2, h3, h5, ho2, ho3, hat, hat2, hne, hbe]
    exact ⟨_, by omega, i + 1, by omega, rfl, rfl⟩
  · simp (disch := omega) only [go_sem, ↓IntWalk.iteOmega, IntWalk.toNatUp, Nat.reduceEqDiff, Nat.reduceAdd, Nat.reduceMul, Nat.reduceSub, Nat.reduceLT, Nat.reduceLeDiff, Int.reduceToNat, Int.reduceLT, Int.reduceLE, Int.reduceEq, Int.reduceAdd, Int.reduceSub, Int.reduceMul, Int.toNat_natCast, reduceCtorEq, decide_true, decide_false, IntWalk.i64_in, IntWalk.u64_in, IntWalk.u8_in, h2, h3, h5, ho2, ho3]
end Go.Proofs.YtbapebepmbikhaaDoor.A
/- Machines of one way out of machines of many: the document's Subsets. -/
namespace Go.Proofs.YtbapebepmbikhaaDoor.A
open Go
set_option maxRecDepth 20000
noncomputable def XRS : FuncId → List AV → Option AV := tabLook [(39, tRel R43), (40, tRel R44), (41, tRel RFind)]
theorem XRS_ok : CPSound Tryd.prog XRS := tab_cons (tab_cons (tab_cons (tab_nil _) (tRel_ok RFind_ok)) (tRel_ok R44_ok)) (tRel_ok R43_ok)
theorem XRS_beg {N : Nat} {S F : Int} {ss fs} (hw : Wf N S F ss fs) : XRS 39 [nfaV N S F ss fs] = some (slB (closeB N (rowsOf N fs) [S])) := tRel_eq (R := R43) R43_fn ⟨_, _, _, _, _, hw, rfl, rfl⟩
theorem XRS_step {N : Nat} {S F : Int} {ss fs} (hw : Wf N S F ss fs) (b : List Bool) (hb : b.length = N) (m : Int) : XRS 40 [nfaV N S F ss fs, slB b, .int .i64 m] = some (slB (stepB N (rowsOf N fs) ss b m)) := tRel_eq (R := R44) R44_fn ⟨_, _, _, _, _, _, _, hw, hb, rfl, rfl⟩
theorem XRS_find (L : List (List Bool)) (t : List Bool) (hL : ∀ b ∈ L, b.length = t.length) (h1 : L.length ≤ 100000) (h2 : t.length ≤ 100000) : XRS 41 [.sl L.length (L.map slB), slB t] = some (.int .i64 (findI L t)) := tRel_eq (R := RFind) RFind_fn ⟨_, _, hL, h1, h2, rfl, rfl⟩
@[go_sem] theorem view_slBs (o d) (L : List (List Bool)) : (L.map slB).map (view o d) = L.map slB := by simp [Function.comp_def, view_sl]
@[go_sem] theorem slBs_len (L : List (List Bool)) : (L.map slB).length = L.length := by simp
@[go_sem] theorem slBs_all (L : List (List Bool)) : (L.map slB).take L.length = L.map slB := take_len (by simp)
/-- Rows of these slots, of these rounds, stay. -/
def FrR (ks : List Nat) (n : Nat) (o o' : Ob) : Prop := ∀ j k, j < n → k ∈ ks → o' (j, k) = o (j, k)
theorem FrR.upd {ks : List Nat} {n : Nat} {o o' : Ob} {j d : Nat} {x : AObj} (h : FrR ks n o o') (hj : n ≤ j ∨ d ∉ ks) : FrR ks n o (A.upd o' (j, d) x) := fun i k hi hk => by
  have e : ¬ (i, k) = (j, d) := fun hc => by
    injection hc with h1 h2
    rcases hj with hj | hj
    · omega
    · exact hj (h2 ▸ hk)
  rw [A.upd, if_neg e]
  exact h i k hi hk
def nzRS : Nat → Option (List (Nat × Nat))
  | 19 => some [(1, 10)]
  | _ => none
theorem lookRS (X) : lookedAt (EX md0 X) nzRS 2 Tryd.f25 = true := by kernel_rfl
set_option maxHeartbeats 4000000 in
theorem rsub_wp (N : Nat) (S F : Int) (ss fs) (hw : Wf N S F ss fs) (cap : Nat) (hc1 : 1 ≤ cap) (hc2 : cap ≤ 1000) :
    WP (EX md0 XRS) noR 1003 nzRS (Tryd.f25.body.getD .skip) (begin_ [nfaV N S F ss fs, .int .i64 cap]) (fun _ => none) 0 (fun u a o nx => u = .ret ∧ view o vDepth (.tup [(aLoad Tryd.prog 25 (a 4) ⟨o, nx⟩).getD .und, a 5]) = subV F (subM N S ss fs cap)) := by
  have hS := hw.s
  have hF := hw.f
  have hNn := hw.n
  have hbeg := XRS_beg hw
  have hstep := XRS_step hw
  simp only [Tryd.f25, Option.getD_some]
  simp (disch := omega) only [go_sem, ↓IntWalk.iteOmega, IntWalk.toNatUp, Nat.reduceEqDiff, Nat.reduceAdd, Nat.reduceMul, Nat.reduceSub, Nat.reduceLT, Nat.reduceLeDiff, Int.reduceToNat, Int.reduceLT, Int.reduceLE, Int.reduceEq, Int.reduceAdd, Int.reduceSub, Int.reduceMul, Int.toNat_natCast, reduceCtorEq, decide_true, decide_false, IntWalk.i64_in, IntWalk.u64_in, IntWalk.u8_in, nzRS, hbeg]
  refine WP_loop (fun mm a o nx => ∃ i L R g vN vA, bfsS (fS N ss fs) cap (1002 - i) i L R = subM N S ss fs cap ∧ mm = 1002 - i ∧ i ≤ L.length ∧ 1 ≤ L.length ∧ L.length ≤ cap ∧ R.length = i * 5 ∧ (∀ b ∈ L, b.length = N) ∧ 3 ≤ nx ∧ o (1, 15) = some (.row ⟨23, 1, g, false, true, L.map slB⟩) ∧ o (2, 7) = some (.row ⟨25, 1, (2, 7), false, true, [vN, vA]⟩) ∧ HS 31 5 55 o nx vN i (cI (natI R)) ∧ HS 4 1 68 o nx vA i (cB (accS F (L.take i))) ∧ o (0, 4) = some (.row ⟨25, 1, (0, 4), false, true, [.nil, .nil]⟩) ∧ o (0, 2) = some (.row ⟨42, 1, (0, 2), false, true, [.int .i64 N, .int .i64 S, .int .i64 F, .sl ss.length (cS ss), .sl fs.length (cP fs)]⟩) ∧ a 1 = .int .i64 cap ∧ a 2 = .ptr (0, 2) (0, 2) 0 ∧ a 4 = .ptr (0, 4) (0, 4) 0 ∧ a 5 = .int .i64 0 ∧ a 6 = .ref (1, 15) g 0 L.length ∧ a 7 = .ptr (2, 7) (2, 7) 0 ∧ a 8 = .int .i64 i) 1002 (by omega)
    ⟨0, [t0S N S fs], [], (1, 15), .nil, .nil, rfl, by omega, by simp, by simp, by simp; omega, rfl, fun b hb => by rw [List.mem_singleton.1 hb]; exact t0S_length N S fs, by omega, ?_, by simp (disch := omega) only [go_sem, ↓IntWalk.iteOmega, IntWalk.toNatUp, Nat.reduceEqDiff, Nat.reduceAdd, Nat.reduceMul, Nat.reduceSub, Nat.reduceLT, Nat.reduceLeDiff, Int.reduceToNat, Int.reduceLT, Int.reduceLE, Int.reduceEq, Int.reduceAdd, Int.reduceSub, Int.reduceMul, Int.toNat_natCast, reduceCtorEq, decide_true, decide_false, IntWalk.i64_in, IntWalk.u64_in, IntWalk.u8_in], HS.nil, HS.nil, by simp (disch := omega) only [go_sem, ↓IntWalk.iteOmega, IntWalk.toNatUp, Nat.reduceEqDiff, Nat.reduceAdd, Nat.reduceMul, Nat.reduceSub, Nat.reduceLT, Nat.reduceLeDiff, Int.reduceToNat, Int.reduceLT, Int.reduceLE, Int.reduceEq, Int.reduceAdd, Int.reduceSub, Int.reduceMul, Int.toNat_natCast, reduceCtorEq, decide_true, decide_false, IntWalk.i64_in, IntWalk.u64_in, IntWalk.u8_in], by simp (disch := omega) only [go_sem, ↓IntWalk.iteOmega, IntWalk.toNatUp, Nat.reduceEqDiff, Nat.reduceAdd, Nat.reduceMul, Nat.reduceSub, Nat.reduceLT, Nat.reduceLeDiff, Int.reduceToNat, Int.reduceLT, Int.reduceLE, Int.reduceEq, Int.reduceAdd, Int.reduceSub, Int.reduceMul, Int.toNat_natCast, reduceCtorEq, decide_true, decide_false, IntWalk.i64_in, IntWalk.u64_in, IntWalk.u8_in], by simp (disch := omega) only [go_sem, ↓IntWalk.iteOmega, IntWalk.toNatUp, Nat.reduceEqDiff, Nat.reduceAdd, Nat.reduceMul, Nat.reduceSub, Nat.reduceLT, Nat.reduceLeDiff, Int.reduceToNat, Int.reduceLT, Int.reduceLE, Int.reduceEq, Int.reduceAdd, Int.reduceSub, Int.reduceMul, Int.toNat_natCast, reduceCtorEq, decide_true, decide_false, IntWalk.i64_in, IntWalk.u64_in, IntWalk.u8_in], by simp (disch := omega) only [go_sem, ↓IntWalk.iteOmega, IntWalk.toNatUp, Nat.reduceEqDiff, Nat.reduceAdd, Nat.reduceMul, Nat.reduceSub, Nat.reduceLT, Nat.reduceLeDiff, Int.reduceToNat, Int.reduceLT, Int.reduceLE, Int.reduceEq, Int.reduceAdd, Int.reduceSub, Int.reduceMul, Int.toNat_natCast, reduceCtorEq, decide_true, decide_false, IntWalk.i64_in, IntWalk.u64_in, IntWalk.u8_in], by simp (disch := omega) only [go_sem, ↓IntWalk.iteOmega, IntWalk.toNatUp, Nat.reduceEqDiff, Nat.reduceAdd, Nat.reduceMul, Nat.reduceSub, Nat.reduceLT, Nat.reduceLeDiff, Int.reduceToNat, Int.reduceLT, Int.reduceLE, Int.reduceEq, Int.reduceAdd, Int.reduceSub, Int.reduceMul, Int.toNat_natCast, reduceCtorEq, decide_true, decide_false, IntWalk.i64_in, IntWalk.u64_in, IntWalk.u8_in], by simp (disch := omega) only [go_sem, ↓IntWalk.iteOmega, IntWalk.toNatUp, Nat.reduceEqDiff, Nat.reduceAdd, Nat.reduceMul, Nat.reduceSub, Nat.reduceLT, Nat.reduceLeDiff, Int.reduceToNat, Int.reduceLT, Int.reduceLE, Int.reduceEq, Int.reduceAdd, Int.reduceSub, Int.reduceMul, Int.toNat_natCast, reduceCtorEq, decide_true, decide_false, IntWalk.i64_in, IntWalk.u64_in, IntWalk.u8_in], ?_, by simp (disch := omega) only [go_sem, ↓IntWalk.iteOmega, IntWalk.toNatUp, Nat.reduceEqDiff, Nat.reduceAdd, Nat.reduceMul, Nat.reduceSub, Nat.reduceLT, Nat.reduceLeDiff, Int.reduceToNat, Int.reduceLT, Int.reduceLE, Int.reduceEq, Int.reduceAdd, Int.reduceSub, Int.reduceMul, Int.toNat_natCast, reduceCtorEq, decide_true, decide_false, IntWalk.i64_in, IntWalk.u64_in, IntWalk.u8_in], by simp (disch := omega) only [go_sem, ↓IntWalk.iteOmega, IntWalk.toNatUp, Nat.reduceEqDiff, Nat.reduceAdd, Nat.reduceMul, Nat.reduceSub, Nat.reduceLT, Nat.reduceLeDiff, Int.reduceToNat, Int.reduceLT, Int.reduceLE, Int.reduceEq, Int.reduceAdd, Int.reduceSub, Int.reduceMul, Int.toNat_natCast, reduceCtorEq, decide_true, decide_false, IntWalk.i64_in, IntWalk.u64_in, IntWalk.u8_in]⟩ ?_
  · simp (disch := omega) only [go_sem, ↓IntWalk.iteOmega, IntWalk.toNatUp, Nat.reduceEqDiff, Nat.reduceAdd, Nat.reduceMul, Nat.reduceSub, Nat.reduceLT, Nat.reduceLeDiff, Int.reduceToNat, Int.reduceLT, Int.reduceLE, Int.reduceEq, Int.reduceAdd, Int.reduceSub, Int.reduceMul, Int.toNat_natCast, reduceCtorEq, decide_true, decide_false, IntWalk.i64_in, IntWalk.u64_in, IntWalk.u8_in]
    rfl
  · simp (disch := omega) only [go_sem, ↓IntWalk.iteOmega, IntWalk.toNatUp, Nat.reduceEqDiff, Nat.reduceAdd, Nat.reduceMul, Nat.reduceSub, Nat.reduceLT, Nat.reduceLeDiff, Int.reduceToNat, Int.reduceLT, Int.reduceLE, Int.reduceEq, Int.reduceAdd, Int.reduceSub, Int.reduceMul, Int.toNat_natCast, reduceCtorEq, decide_true, decide_false, IntWalk.i64_in, IntWalk.u64_in, IntWalk.u8_in]
  rintro mm a o nx ⟨i, L, R, g, vN, vA, hB, rfl, hi, hL1, hLc, hRl, hLN, hnx, ho15, ho7, hvN, hvA, ho4, ho2, h1, h2, h4, h5, h6, h7, h8⟩
  by_cases hlt : i < L.length
  · obtain ⟨x, hx⟩ : ∃ x, L[i]? = some x := ⟨_, List.getElem?_eq_getElem hlt⟩
    have hxN := hLN x (List.mem_of_getElem? hx)
    simp (disch := omega) only [go_sem, ↓IntWalk.iteOmega, IntWalk.toNatUp, Nat.reduceEqDiff, Nat.reduceAdd, Nat.reduceMul, Nat.reduceSub, Nat.reduceLT, Nat.reduceLeDiff, Int.reduceToNat, Int.reduceLT, Int.reduceLE, Int.reduceEq, Int.reduceAdd, Int.reduceSub, Int.reduceMul, Int.toNat_natCast, reduceCtorEq, decide_true, decide_false, IntWalk.i64_in, IntWalk.u64_in, IntWalk.u8_in, nzRS, h1, h2, h4, h5, h6, h7, h8, ho15]
    refine WP_loop (fun mm a o' nx' => ∃ m g' q9, m ≤ 5 ∧ mm = 5 - m ∧ nx ≤ nx' ∧ o' (1, 15) = some (.row ⟨23, 1, g', false, true, (rowS (fS N ss fs) x m L).1.map slB⟩) ∧ (rowS (fS N ss fs) x m L).1.length ≤ cap ∧ nx ≤ q9 ∧ q9 < nx' ∧ o' (q9, 9) = some (.row ⟨31, 1, (q9, 9), false, true, cI (natI (rowS (fS N ss fs) x m L).2 ++ List.replicate (5 - m) 0)⟩) ∧ FrR [7, 55, 68, 4, 2] nx o o' ∧
      a 1 = .int .i64 cap ∧ a 2 = .ptr (0, 2) (0, 2) 0 ∧ a 4 = .ptr (0, 4) (0, 4) 0 ∧ a 5 = .int .i64 0 ∧ a 6 = .ref (1, 15) g' 0 (rowS (fS N ss fs) x m L).1.length ∧ a 7 = .ptr (2, 7) (2, 7) 0 ∧ a 8 = .int .i64 i ∧ a 9 = .ptr (q9, 9) (q9, 9) 0 ∧ a 10 = .int .i64 m) 5 (by omega)
      ⟨0, g, nx + 1, by omega, by omega, by omega, by rw [upd_fst (by omega)]; exact ho15, hLc, by omega, by omega, upd_same _ _ _, FrR.upd (fun _ _ _ _ => rfl) (.inl (by omega)), by simp (disch := omega) only [go_sem, ↓IntWalk.iteOmega, IntWalk.toNatUp, Nat.reduceEqDiff, Nat.reduceAdd, Nat.reduceMul, Nat.reduceSub, Nat.reduceLT, Nat.reduceLeDiff, Int.reduceToNat, Int.reduceLT, Int.reduceLE, Int.reduceEq, Int.reduceAdd, Int.reduceSub, Int.reduceMul, Int.toNat_natCast, reduceCtorEq, decide_true, decide_false, IntWalk.i64_in, IntWalk.u64_in, IntWalk.u8_in, h1], by simp (disch := omega) only [go_sem, ↓IntWalk.iteOmega, IntWalk.toNatUp, Nat.reduceEqDiff, Nat.reduceAdd, Nat.reduceMul, Nat.reduceSub, Nat.reduceLT, Nat.reduceLeDiff, Int.reduceToNat, Int.reduceLT, Int.reduceLE, Int.reduceEq, Int.reduceAdd, Int.reduceSub, Int.reduceMul, Int.toNat_natCast, reduceCtorEq, decide_true, decide_false, IntWalk.i64_in, IntWalk.u64_in, IntWalk.u8_in, h2], by simp (disch := omega) only [go_sem, ↓IntWalk.iteOmega, IntWalk.toNatUp, Nat.reduceEqDiff, Nat.reduceAdd, Nat.reduceMul, Nat.reduceSub, Nat.reduceLT, Nat.reduceLeDiff, Int.reduceToNat, Int.reduceLT, Int.reduceLE, Int.reduceEq, Int.reduceAdd, Int.reduceSub, Int.reduceMul, Int.toNat_natCast, reduceCtorEq, decide_true, decide_false, IntWalk.i64_in, IntWalk.u64_in, IntWalk.u8_in, h4], by simp (disch := omega) only [go_sem, ↓IntWalk.iteOmega, IntWalk.toNatUp, Nat.reduceEqDiff, Nat.reduceAdd, Nat.reduceMul, Nat.reduceSub, Nat.reduceLT, Nat.reduceLeDiff, Int.reduceToNat, Int.reduceLT, Int.reduceLE, Int.reduceEq, Int.reduceAdd, Int.reduceSub, Int.reduceMul, Int.toNat_natCast, reduceCtorEq, decide_true, decide_false, IntWalk.i64_in, IntWalk.u64_in, IntWalk.u8_in, h5], by simp (disch := omega) only [go_sem, ↓IntWalk.iteOmega, IntWalk.toNatUp, Nat.reduceEqDiff, Nat.reduceAdd, Nat.reduceMul, Nat.reduceSub, Nat.reduceLT, Nat.reduceLeDiff, Int.reduceToNat, Int.reduceLT, Int.reduceLE, Int.reduceEq, Int.reduceAdd, Int.reduceSub, Int.reduceMul, Int.toNat_natCast, reduceCtorEq, decide_true, decide_false, IntWalk.i64_in, IntWalk.u64_in, IntWalk.u8_in, h6]; rfl, by simp (disch := omega) only [go_sem, ↓IntWalk.iteOmega, IntWalk.toNatUp, Nat.reduceEqDiff, Nat.reduceAdd, Nat.reduceMul, Nat.reduceSub, Nat.reduceLT, Nat.reduceLeDiff, Int.reduceToNat, Int.reduceLT, Int.reduceLE, Int.reduceEq, Int.reduceAdd, Int.reduceSub, Int.reduceMul, Int.toNat_natCast, reduceCtorEq, decide_true, decide_false, IntWalk.i64_in, IntWalk.u64_in, IntWalk.u8_in, h7], by simp (disch := omega) only [go_sem, ↓IntWalk.iteOmega, IntWalk.toNatUp, Nat.reduceEqDiff, Nat.reduceAdd, Nat.reduceMul, Nat.reduceSub, Nat.reduceLT, Nat.reduceLeDiff, Int.reduceToNat, Int.reduceLT, Int.reduceLE, Int.reduceEq, Int.reduceAdd, Int.reduceSub, Int.reduceMul, Int.toNat_natCast, reduceCtorEq, decide_true, decide_false, IntWalk.i64_in, IntWalk.u64_in, IntWalk.u8_in, h8], by simp (disch := omega) only [go_sem, ↓IntWalk.iteOmega, IntWalk.toNatUp, Nat.reduceEqDiff, Nat.reduceAdd, Nat.reduceMul, Nat.reduceSub, Nat.reduceLT, Nat.reduceLeDiff, Int.reduceToNat, Int.reduceLT, Int.reduceLE, Int.reduceEq, Int.reduceAdd, Int.reduceSub, Int.reduceMul, Int.toNat_natCast, reduceCtorEq, decide_true, decide_false, IntWalk.i64_in, IntWalk.u64_in, IntWalk.u8_in], by simp (disch := omega) only [go_sem, ↓IntWalk.iteOmega, IntWalk.toNatUp, Nat.reduceEqDiff, Nat.reduceAdd, Nat.reduceMul, Nat.reduceSub, Nat.reduceLT, Nat.reduceLeDiff, Int.reduceToNat, Int.reduceLT, Int.reduceLE, Int.reduceEq, Int.reduceAdd, Int.reduceSub, Int.reduceMul, Int.toNat_natCast, reduceCtorEq, decide_true, decide_false, IntWalk.i64_in, IntWalk.u64_in, IntWalk.u8_in]⟩ ?_
    clear h1 h2 h4 h5 h6 h7 h8 ho15
    rintro mm a o' nx' ⟨m, g', q9, hm, rfl, hnx', ho15, hcap, hq9', hq9, ho9, hkp, h1, h2, h4, h5, h6, h7, h8, h9, h10⟩
    have hpre := rowS_pre (f := fS N ss fs) x m L
    have hrl := rowS_len (f := fS N ss fs) x m L
    have hrN := rowS_all (f := fS N ss fs) (fun b => b.length = N) x (fun m => fS_length N ss fs x m) m hLN
    have hx' := pre_get hpre hx
    have hsucc := rowS_next (fS N ss fs) x m L
    have ho4' := (hkp 0 4 (by omega) (by decide)).trans ho4
    have ho2' := (hkp 0 2 (by omega) (by decide)).trans ho2
    have ho7' := (hkp 2 7 (by omega) (by decide)).trans ho7
    by_cases hm5 : m < 5
    · have hltL : i < (rowS (fS N ss fs) x m L).1.length := (List.getElem?_eq_some_iff.1 hx').1
      obtain ⟨t, ht⟩ : ∃ t, t = fS N ss fs x m := ⟨_, rfl⟩
      have hst : stepB N (rowsOf N fs) ss x (m : Int) = t := ht.symm
      have htl : t.length = N := by rw [ht]; exact fS_length N ss fs x m
      rw [← ht] at hsucc
      have hstp := hstep x hxN m
      rw [hst] at hstp
      generalize hL' : (rowS (fS N ss fs) x m L).1 = L' at *
      generalize hR2 : (rowS (fS N ss fs) x m L).2 = R' at *
      have hget := bools_get hltL
      rw [show L'.getD i [] = x by simp [List.getD, hx']] at hget
      have hfd := XRS_find L' t (fun b hb => by rw [hrN b hb, htl]) (by omega) (by omega)
      have hset : ∀ k : Nat, splice (cI (natI R' ++ List.replicate (5 - m) 0)) m [.int .i64 (k : Int)] = cI (natI (R' ++ [k]) ++ List.replicate (5 - (m + 1)) 0) := fun k => by
        rw [cI_set _ _ _ (by rw [List.length_append, natI_length, List.length_replicate]; omega), natI_app, List.set_append, if_neg (by rw [natI_length]; omega), natI_length, hrl, Nat.sub_self]
        obtain ⟨d, hd⟩ : ∃ d, 5 - m = d + 1 := ⟨4 - m, by omega⟩
        rw [hd, show 5 - (m + 1) = d by omega, List.replicate_succ]
        simp [natI]
      by_cases htm : t ∈ L'
      · rw [show findI L' t = (L'.idxOf t : Int) from if_pos htm] at hfd
        rw [metS_in L' t htm] at hsucc
        simp (disch := omega) only [go_sem, ↓IntWalk.iteOmega, IntWalk.toNatUp, Nat.reduceEqDiff, Nat.reduceAdd, Nat.reduceMul, Nat.reduceSub, Nat.reduceLT, Nat.reduceLeDiff, Int.reduceToNat, Int.reduceLT, Int.reduceLE, Int.reduceEq, Int.reduceAdd, Int.reduceSub, Int.reduceMul, Int.toNat_natCast, reduceCtorEq, decide_true, decide_false, IntWalk.i64_in, IntWalk.u64_in, IntWalk.u8_in, nzRS, h1, h2, h4, h5, h6, h7, h8, h9, h10, ho15, ho9, ho2', hget, hstp, hfd, hset, natI_length, hrl]
        refine ⟨_, ?_, m + 1, g', q9, by omega, rfl, by omega, by rw [hsucc], by rw [hsucc]; exact hcap, hq9', by omega, by rw [if_pos rfl, hsucc], hkp.upd (.inl hq9'), by rw [hsucc], rfl, rfl⟩
        · omega
      · rw [show findI L' t = -1 from if_neg htm] at hfd
        have hml : (metS L' t).length = L'.length + 1 := by rw [metS_out L' t htm]; simp
        have hmm : (metS L' t).map slB = L'.map slB ++ [slB t] := by rw [metS_out L' t htm]; simp
        have hidx : L'.idxOf t = L'.length := List.idxOf_eq_length htm
        rw [hidx] at hsucc
        by_cases hbig : (cap : Int) ≤ L'.length
        · have hnone : subM N S ss fs cap = none := by
            rw [← hB, show 1002 - i = (1001 - i) + 1 by omega, bfsS_succ, hx]
            dsimp only
            rw [if_pos]
            have := (rowS_pre' (f := fS N ss fs) x L (show m + 1 ≤ 5 by omega)).length_le
            rw [hsucc] at this
            dsimp only at this
            omega
          rw [hnone]
          simp (disch := omega) only [go_sem, ↓IntWalk.iteOmega, IntWalk.toNatUp, Nat.reduceEqDiff, Nat.reduceAdd, Nat.reduceMul, Nat.reduceSub, Nat.reduceLT, Nat.reduceLeDiff, Int.reduceToNat, Int.reduceLT, Int.reduceLE, Int.reduceEq, Int.reduceAdd, Int.reduceSub, Int.reduceMul, Int.toNat_natCast, reduceCtorEq, decide_true, decide_false, IntWalk.i64_in, IntWalk.u64_in, IntWalk.u8_in, nzRS, h1, h2, h4, h5, h6, h7, h8, h9, h10, ho15, ho9, ho2', ho4', hget, hstp, hfd, hset, natI_length, hrl, hbig]
          rfl
        · simp (disch := omega) only [go_sem, ↓IntWalk.iteOmega, IntWalk.toNatUp, Nat.reduceEqDiff, Nat.reduceAdd, Nat.reduceMul, Nat.reduceSub, Nat.reduceLT, Nat.reduceLeDiff, Int.reduceToNat, Int.reduceLT, Int.reduceLE, Int.reduceEq, Int.reduceAdd, Int.reduceSub, Int.reduceMul, Int.toNat_natCast, reduceCtorEq, decide_true, decide_false, IntWalk.i64_in, IntWalk.u64_in, IntWalk.u8_in, nzRS, h1, h2, h4, h5, h6, h7, h8, h9, h10, ho15, ho9, ho2', ho4', hget, hstp, hfd, hset, natI_length, hrl, hbig]
          refine ⟨_, ?_, m + 1, _, q9, by omega, rfl, by omega, by rw [hsucc]; rw [hmm], by rw [hsucc]; show (metS L' t).length ≤ cap; omega, hq9', by omega, by rw [if_pos rfl, hsucc], ((hkp.upd (.inl (by omega))).upd (.inr (by decide))).upd (.inl hq9'), by rw [hsucc]; show _ = AV.ref _ _ 0 (metS L' t).length; rw [hml], rfl, rfl⟩
          omega
    · have hme : m = 5 := by omega
      subst hme
      have hB' : bfsS (fS N ss fs) cap (1002 - (i + 1)) (i + 1) (rowS (fS N ss fs) x 5 L).1 (R ++ (rowS (fS N ss fs) x 5 L).2) = subM N S ss fs cap := by
        rw [← hB, show 1002 - i = (1002 - (i + 1)) + 1 by omega, bfsS_succ, hx]
        dsimp only
        rw [if_neg (by omega)]
      have hltL : i < (rowS (fS N ss fs) x 5 L).1.length := (List.getElem?_eq_some_iff.1 hx').1
      have hLi : (rowS (fS N ss fs) x 5 L).1.take (i + 1) = L.take i ++ [x] := by
        rw [List.take_add_one, hx']
        obtain ⟨tl, htl⟩ := hpre
        rw [← htl, List.take_append_of_le_length (by omega)]
        rfl
      generalize hL' : (rowS (fS N ss fs) x 5 L).1 = L' at *
      generalize hR2 : (rowS (fS N ss fs) x 5 L).2 = R' at *
      have hget := bools_get hltL
      rw [show L'.getD i [] = x by simp [List.getD, hx']] at hget
      have hvN' := hvN.keep (fun j hj => hkp j 55 hj (by decide)) hnx'
      have hvA' := hvA.keep (fun j hj => hkp j 68 hj (by decide)) hnx'
      have hatF := cB_get (l := x) (i := F.toNat) (s := 1) (by omega)
      obtain ⟨r0, r1, r2, r3, r4, hRe⟩ : ∃ r0 r1 r2 r3 r4, R' = [r0, r1, r2, r3, r4] := by
        match R', hrl with
        | [a, b, c, d, e], _ => exact ⟨a, b, c, d, e, rfl⟩
      have ho9 : o' (q9, 9) = some (.row ⟨31, 1, (q9, 9), false, true, [.int .i64 r0, .int .i64 r1, .int .i64 r2, .int .i64 r3, .int .i64 r4]⟩) := by
        rw [ho9, hRe]
        rfl
      have hRR : cI (natI (R ++ R')) = cI (natI R) ++ [.int .i64 r0, .int .i64 r1, .int .i64 r2, .int .i64 r3, .int .i64 r4] := by
        rw [natI_app, cI_app, hRe]
        rfl
      have htkR : (cI (natI R)).take (i * 5) = cI (natI R) := take_len (by rw [cI_length, natI_length]; exact hRl)
      have htkA : (cB (accS F (L.take i))).take i = cB (accS F (L.take i)) := take_len (by rw [cB_length, accS_length, List.length_take]; omega)
      have hacs : accS F (L.take i ++ [x]) = accS F (L.take i) ++ [x.getD F.toNat false] := by simp [accS]
      have hokA := hvA'.ok
      rcases hvN' with ⟨rfl, e1, e2⟩ | ⟨i8, g8, rfl, hi8, hro8, hl8⟩
      · rcases hvA' with ⟨rfl, e3, e4⟩ | ⟨i9, g9, rfl, hi9, hro9, hl9⟩
        · simp (disch := omega) only [go_sem, ↓IntWalk.iteOmega, IntWalk.toNatUp, Nat.reduceEqDiff, Nat.reduceAdd, Nat.reduceMul, Nat.reduceSub, Nat.reduceLT, Nat.reduceLeDiff, Int.reduceToNat, Int.reduceLT, Int.reduceLE, Int.reduceEq, Int.reduceAdd, Int.reduceSub, Int.reduceMul, Int.toNat_natCast, reduceCtorEq, decide_true, decide_false, IntWalk.i64_in, IntWalk.u64_in, IntWalk.u8_in, nzRS, h1, h2, h4, h5, h6, h7, h8, h9, h10, ho15, ho9, ho2', ho4', ho7', hget, hatF, hokA]
          refine ⟨_, ?_, i + 1, L', R ++ R', g', _, _, hB', rfl, by omega, by omega, hcap, by rw [List.length_append, hRl, hrl]; omega, hrN, rfl, rfl, .inr ⟨nx' + 1, (nx' + 1, 55), by rw [e1], by omega, ?_, ?_⟩, .inr ⟨nx' + 1 + 1, (nx' + 1 + 1, 68), by rw [e3], by omega, ?_, ?_⟩, rfl, rfl⟩
          · omega
          · rw [hRR, e2]
            simp (disch := omega) only [go_sem, ↓IntWalk.iteOmega, IntWalk.toNatUp, Nat.reduceEqDiff, Nat.reduceAdd, Nat.reduceMul, Nat.reduceSub, Nat.reduceLT, Nat.reduceLeDiff, Int.reduceToNat, Int.reduceLT, Int.reduceLE, Int.reduceEq, Int.reduceAdd, Int.reduceSub, Int.reduceMul, Int.toNat_natCast, reduceCtorEq, decide_true, decide_false, IntWalk.i64_in, IntWalk.u64_in, IntWalk.u8_in]
          · rw [cI_length, natI_length, List.length_append, hRl, hrl]; omega
          · rw [hLi, hacs, cB_app, e4]
            simp (disch := omega) only [go_sem, ↓IntWalk.iteOmega, IntWalk.toNatUp, Nat.reduceEqDiff, Nat.reduceAdd, Nat.reduceMul, Nat.reduceSub, Nat.reduceLT, Nat.reduceLeDiff, Int.reduceToNat, Int.reduceLT, Int.reduceLE, Int.reduceEq, Int.reduceAdd, Int.reduceSub, Int.reduceMul, Int.toNat_natCast, reduceCtorEq, decide_true, decide_false, IntWalk.i64_in, IntWalk.u64_in, IntWalk.u8_in]
            rfl
          · rw [cB_length, accS_length, List.length_take]; omega
        · simp (disch := omega) only [go_sem, ↓IntWalk.iteOmega, IntWalk.toNatUp, Nat.reduceEqDiff, Nat.reduceAdd, Nat.reduceMul, Nat.reduceSub, Nat.reduceLT, Nat.reduceLeDiff, Int.reduceToNat, Int.reduceLT, Int.reduceLE, Int.reduceEq, Int.reduceAdd, Int.reduceSub, Int.reduceMul, Int.toNat_natCast, reduceCtorEq, decide_true, decide_false, IntWalk.i64_in, IntWalk.u64_in, IntWalk.u8_in, nzRS, h1, h2, h4, h5, h6, h7, h8, h9, h10, ho15, ho9, ho2', ho4', ho7', hget, hatF, hokA, natI_length, accS_length, List.length_take, hro9, htkA]
          refine ⟨_, ?_, i + 1, L', R ++ R', g', _, _, hB', rfl, by omega, by omega, hcap, by rw [List.length_append, hRl, hrl]; omega, hrN, rfl, rfl, .inr ⟨nx' + 1, (nx' + 1, 55), by rw [e1], by omega, ?_, ?_⟩, .inr ⟨i9, (nx' + 1 + 1, 68), rfl, by omega, ?_, ?_⟩, rfl, rfl⟩
          · omega
          · rw [hRR, e2]
            simp (disch := omega) only [go_sem, ↓IntWalk.iteOmega, IntWalk.toNatUp, Nat.reduceEqDiff, Nat.reduceAdd, Nat.reduceMul, Nat.reduceSub, Nat.reduceLT, Nat.reduceLeDiff, Int.reduceToNat, Int.reduceLT, Int.reduceLE, Int.reduceEq, Int.reduceAdd, Int.reduceSub, Int.reduceMul, Int.toNat_natCast, reduceCtorEq, decide_true, decide_false, IntWalk.i64_in, IntWalk.u64_in, IntWalk.u8_in]
          · rw [cI_length, natI_length, List.length_append, hRl, hrl]; omega
          · rw [hLi, hacs, cB_app]
            simp (disch := omega) only [go_sem, ↓IntWalk.iteOmega, IntWalk.toNatUp, Nat.reduceEqDiff, Nat.reduceAdd, Nat.reduceMul, Nat.reduceSub, Nat.reduceLT, Nat.reduceLeDiff, Int.reduceToNat, Int.reduceLT, Int.reduceLE, Int.reduceEq, Int.reduceAdd, Int.reduceSub, Int.reduceMul, Int.toNat_natCast, reduceCtorEq, decide_true, decide_false, IntWalk.i64_in, IntWalk.u64_in, IntWalk.u8_in]
            rfl
          · rw [cB_length, accS_length, List.length_take]; omega
      · rcases hvA' with ⟨rfl, e3, e4⟩ | ⟨i9, g9, rfl, hi9, hro9, hl9⟩
        · simp (disch := omega) only [go_sem, ↓IntWalk.iteOmega, IntWalk.toNatUp, Nat.reduceEqDiff, Nat.reduceAdd, Nat.reduceMul, Nat.reduceSub, Nat.reduceLT, Nat.reduceLeDiff, Int.reduceToNat, Int.reduceLT, Int.reduceLE, Int.reduceEq, Int.reduceAdd, Int.reduceSub, Int.reduceMul, Int.toNat_natCast, reduceCtorEq, decide_true, decide_false, IntWalk.i64_in, IntWalk.u64_in, IntWalk.u8_in, nzRS, h1, h2, h4, h5, h6, h7, h8, h9, h10, ho15, ho9, ho2', ho4', ho7', hget, hatF, hokA, natI_length, accS_length, List.length_take, hro8, htkR]
          refine ⟨_, ?_, i + 1, L', R ++ R', g', _, _, hB', rfl, by omega, by omega, hcap, by rw [List.length_append, hRl, hrl]; omega, hrN, rfl, rfl, .inr ⟨i8, (nx' + 1, 55), rfl, by omega, ?_, ?_⟩, .inr ⟨nx' + 1 + 1, (nx' + 1 + 1, 68), by rw [e3], by omega, ?_, ?_⟩, rfl, rfl⟩
          · omega
          · rw [hRR]
            simp (disch := omega) only [go_sem, ↓IntWalk.iteOmega, IntWalk.toNatUp, Nat.reduceEqDiff, Nat.reduceAdd, Nat.reduceMul, Nat.reduceSub, Nat.reduceLT, Nat.reduceLeDiff, Int.reduceToNat, Int.reduceLT, Int.reduceLE, Int.reduceEq, Int.reduceAdd, Int.reduceSub, Int.reduceMul, Int.toNat_natCast, reduceCtorEq, decide_true, decide_false, IntWalk.i64_in, IntWalk.u64_in, IntWalk.u8_in]
          · rw [cI_length, natI_length, List.length_append, hRl, hrl]; omega
          · rw [hLi, hacs, cB_app, e4]
            simp (disch := omega) only [go_sem, ↓IntWalk.iteOmega, IntWalk.toNatUp, Nat.reduceEqDiff, Nat.reduceAdd, Nat.reduceMul, Nat.reduceSub, Nat.reduceLT, Nat.reduceLeDiff, Int.reduceToNat, Int.reduceLT, Int.reduceLE, Int.reduceEq, Int.reduceAdd, Int.reduceSub, Int.reduceMul, Int.toNat_natCast, reduceCtorEq, decide_true, decide_false, IntWalk.i64_in, IntWalk.u64_in, IntWalk.u8_in]
            rfl
          · rw [cB_length, accS_length, List.length_take]; omega
        · simp (disch := omega) only [go_sem, ↓IntWalk.iteOmega, IntWalk.toNatUp, Nat.reduceEqDiff, Nat.reduceAdd, Nat.reduceMul, Nat.reduceSub, Nat.reduceLT, Nat.reduceLeDiff, Int.reduceToNat, Int.reduceLT, Int.reduceLE, Int.reduceEq, Int.reduceAdd, Int.reduceSub, Int.reduceMul, Int.toNat_natCast, reduceCtorEq, decide_true, decide_false, IntWalk.i64_in, IntWalk.u64_in, IntWalk.u8_in, nzRS, h1, h2, h4, h5, h6, h7, h8, h9, h10, ho15, ho9, ho2', ho4', ho7', hget, hatF, hokA, natI_length, accS_length, List.length_take, hro8, htkR, hro9, htkA]
          refine ⟨_, ?_, i + 1, L', R ++ R', g', _, _, hB', rfl, by omega, by omega, hcap, by rw [List.length_append, hRl, hrl]; omega, hrN, rfl, rfl, .inr ⟨i8, (nx' + 1, 55), rfl, by omega, ?_, ?_⟩, .inr ⟨i9, (nx' + 1 + 1, 68), rfl, by omega, ?_, ?_⟩, rfl, rfl⟩
          · omega
          · rw [hRR]
            simp (disch := omega) only [go_sem, ↓IntWalk.iteOmega, IntWalk.toNatUp, Nat.reduceEqDiff, Nat.reduceAdd, Nat.reduceMul, Nat.reduceSub, Nat.reduceLT, Nat.reduceLeDiff, Int.reduceToNat, Int.reduceLT, Int.reduceLE, Int.reduceEq, Int.reduceAdd, Int.reduceSub, Int.reduceMul, Int.toNat_natCast, reduceCtorEq, decide_true, decide_false, IntWalk.i64_in, IntWalk.u64_in, IntWalk.u8_in]
          · rw [cI_length, natI_length, List.length_append, hRl, hrl]; omega
          · rw [hLi, hacs, cB_app]
            simp (disch := omega) only [go_sem, ↓IntWalk.iteOmega, IntWalk.toNatUp, Nat.reduceEqDiff, Nat.reduceAdd, Nat.reduceMul, Nat.reduceSub, Nat.reduceLT, Nat.reduceLeDiff, Int.reduceToNat, Int.reduceLT, Int.reduceLE, Int.reduceEq, Int.reduceAdd, Int.reduceSub, Int.reduceMul, Int.toNat_natCast, reduceCtorEq, decide_true, decide_false, IntWalk.i64_in, IntWalk.u64_in, IntWalk.u8_in]
            rfl
          · rw [cB_length, accS_length, List.length_take]; omega
  · have hie : i = L.length := by omega
    subst hie
    rw [List.take_length] at hvA
    have hfin : subM N S ss fs cap = some (L, R) := by
      rw [← hB, show 1002 - L.length = (1001 - L.length) + 1 by omega, bfsS_succ, List.getElem?_eq_none (Nat.le_refl _)]
    rw [hfin]
    have e1 : ∀ y, view (upd o (0, 4) y) 10 vN = .sl L.length (cI (natI R)) := fun y => by rw [(hvN.keep (o' := upd o (0, 4) y) (nx' := nx) (fun i hi => by simp [upd_app]) (Nat.le_refl _)).view 9, view_cI]
    have e2 : ∀ y, view (upd o (0, 4) y) 10 vA = .sl L.length (cB (accS F L)) := fun y => by rw [(hvA.keep (o' := upd o (0, 4) y) (nx' := nx) (fun i hi => by simp [upd_app]) (Nat.le_refl _)).view 9, view_cB]
    have e3 := hvN.ok
    have e4 := hvA.ok
    simp (disch := omega) only [go_sem, ↓IntWalk.iteOmega, IntWalk.toNatUp, Nat.reduceEqDiff, Nat.reduceAdd, Nat.reduceMul, Nat.reduceSub, Nat.reduceLT, Nat.reduceLeDiff, Int.reduceToNat, Int.reduceLT, Int.reduceLE, Int.reduceEq, Int.reduceAdd, Int.reduceSub, Int.reduceMul, Int.toNat_natCast, reduceCtorEq, decide_true, decide_false, IntWalk.i64_in, IntWalk.u64_in, IntWalk.u8_in, nzRS, h1, h2, h4, h5, h6, h7, h8, ho15, ho7, ho4, e1, e2, e3, e4]
    show _ = AV.tup [.agg [.sl L.length (cI (natI R)), .sl (accS F L).length (cB (accS F L))], .int .i64 0]
    rw [accS_length]
theorem rsub_ok (N : Nat) (S F : Int) (ss fs) (hw : Wf N S F ss fs) (cap : Nat) (hc1 : 1 ≤ cap) (hc2 : cap ≤ 1000) : Ok Tryd.prog 25 [nfaV N S F ss fs, .int .i64 cap] (subV F (subM N S ss fs cap)) := by
  refine ok_of_WP (E := EX md0 XRS) (cr := noR) XRS_ok (noR_ok _) mixed (k := 1003) Tryd.func25 (lookRS _) rfl (WP_mono (rsub_wp N S F ss fs hw cap hc1 hc2) ?_)
  rintro u a o nx ⟨rfl, h⟩
  refine ⟨.inr rfl, ?_⟩
  simp only [Tryd.f25, resultsL_cons, resultsL_nil, result1_cell, result1_tmp]
  cases hl : aLoad Tryd.prog 25 (a 4) ⟨o, nx⟩ with
  | none =>
    rw [hl] at h
    cases hm : subM N S ss fs cap with
    | none =>
      rw [hm] at h
      simp [vDepth, view, subV, noneV, view0] at h
    | some p =>
      rw [hm] at h
      simp [vDepth, view, subV, dfaV, view0] at h
  | some v =>
    rw [hl] at h
    rw [show aLoad (EX md0 XRS).P 25 (a 4) ⟨o, nx⟩ = some v from hl]
    exact h
end Go.Proofs.YtbapebepmbikhaaDoor.A
/- Make: a machine out of numbers. -/
namespace Go.Proofs.YtbapebepmbikhaaDoor.A
open Go
set_option maxRecDepth 20000
def isFree (k : Int) : Bool := decide (k % 3 = 0)
def freeOf' (N k : Int) : Int × Int := (IntKind.i64.wrap (k.tdiv 3) % N, IntKind.i64.wrap (k.tdiv 23) % N)
def stepOf' (N k : Int) : Int × Int × Int := (IntKind.i64.wrap (k.tdiv 3) % N, IntKind.i64.wrap (k.tdiv 23) % N, 1 + IntKind.i64.wrap (k.tdiv 170) % 31)
def freesOf (N : Int) (ns : List Int) : List (Int × Int) := (ns.filter isFree).map (freeOf' N)
def stepsOf (N : Int) (ns : List Int) : List (Int × Int × Int) := (ns.filter fun k => !isFree k).map (stepOf' N)
def sizeN (size : Int) : Nat := (1 + size % 7).toNat
theorem sizeN_eq (size : Int) : (sizeN size : Int) = 1 + size % 7 := by
  have := Int.emod_nonneg size (show (7 : Int) ≠ 0 by decide)
  unfold sizeN; omega
theorem sizeN_in (size : Int) : 1 ≤ sizeN size ∧ sizeN size ≤ 7 := by
  have := Int.emod_nonneg size (show (7 : Int) ≠ 0 by decide)
  have := Int.emod_lt_of_pos size (show (0 : Int) < 7 by decide)
  unfold sizeN; omega
theorem freesOf_snoc (N ns k) : freesOf N (ns ++ [k]) = freesOf N ns ++ (if isFree k then [freeOf' N k] else []) := by
  unfold freesOf
  rw [List.filter_append, List.map_append]
  congr 1
  cases h : isFree k <;> simp [h]
theorem stepsOf_snoc (N ns k) : stepsOf N (ns ++ [k]) = stepsOf N ns ++ (if isFree k then [] else [stepOf' N k]) := by
  unfold stepsOf
  rw [List.filter_append, List.map_append]
  congr 1
  cases h : isFree k <;> simp [h]
theorem freesOf_le (N ns) : (freesOf N ns).length ≤ ns.length := by unfold freesOf; rw [List.length_map]; exact List.length_filter_le _ _
theorem stepsOf_le (N ns) : (stepsOf N ns).length ≤ ns.length := by unfold stepsOf; rw [List.length_map]; exact List.length_filter_le _ _
/-- The machine that Make makes. -/
theorem make_wf (size : Int) (ns : List Int) (start end_ : Int) : Wf (sizeN size) (start % sizeN size) (end_ % sizeN size) (stepsOf (sizeN size) (ns.take 14)) (freesOf (sizeN size) (ns.take 14)) := by
  obtain ⟨h1, h2⟩ := sizeN_in size
  have hm : ∀ x : Int, 0 ≤ x % (sizeN size : Int) ∧ x % (sizeN size : Int) < sizeN size := fun x => ⟨Int.emod_nonneg _ (by omega), Int.emod_lt_of_pos _ (by omega)⟩
  have hl : (ns.take 14).length ≤ 14 := by rw [List.length_take]; omega
  refine ⟨by omega, hm _, hm _, ?_, ?_, fun p hp => ?_, fun p hp => ?_⟩
  · have := stepsOf_le (sizeN size) (ns.take 14); omega
  · have := freesOf_le (sizeN size) (ns.take 14); omega
  · obtain ⟨k, _, rfl⟩ := List.mem_map.1 hp
    exact ⟨hm _, hm _⟩
  · obtain ⟨k, _, rfl⟩ := List.mem_map.1 hp
    exact ⟨hm _, hm _⟩
def nz23' : Nat → Option (List (Nat × Nat))
  | 8 => some [(1, 13)]
  | 9 => some [(1, 17)]
  | _ => none
noncomputable def X23 : FuncId → List AV → Option AV := tabLook [(34, tRel RW)]
theorem X23_ok : CPSound Tryd.prog X23 := tab_cons (tab_nil _) (tRel_ok within0_ok)
theorem X23_eq (a n : Int) (h1 : 0 < n) (h2 : n ≤ 1000000) : X23 34 [.int .i64 a, .int .i64 n] = some (.int .i64 (a % n)) := rw_eq h1 h2
/-- What stands in memory behind it. -/
structure Made (o0 : Ob) (nx0 : Nat) (N : Nat) (S F : Int) (ss : List (Int × Int × Int)) (fs : List (Int × Int)) (vS vF : AV) (o : Ob) (nx : Nat) : Prop where
  le : nx0 ≤ nx
  s : HS 70 3 77 o nx vS ss.length (cS ss)
  f : HS 68 2 57 o nx vF fs.length (cP fs)
  keep : ∀ i j, i < nx0 → o (i, j) = o0 (i, j)
  ls : ∀ i g n, vS = .ref (i, 77) g 0 n → nx0 ≤ i
  lf : ∀ i g n, vF = .ref (i, 57) g 0 n → nx0 ≤ i
theorem make_wp (cr k) (size : Int) (ns : List Int) (start end_ : Int) (o0 : Ob) (nx0 : Nat) (hk : 15 < k) :
    WP (EX md0 X23) cr k nz23' (Tryd.f23.body.getD .skip) (begin_ [.int .i64 size, slI ns, .int .i64 start, .int .i64 end_]) o0 nx0 (fun u a o nx => u = .ret ∧ ∃ vS vF, Made o0 nx0 (sizeN size) (start % sizeN size) (end_ % sizeN size) (stepsOf (sizeN size) (ns.take 14)) (freesOf (sizeN size) (ns.take 14)) vS vF o nx ∧
      a 8 = .ptr (nx0, 8) (nx0, 8) 0 ∧ o (nx0, 8) = some (.row ⟨42, 1, (nx0, 8), false, true, [.int .i64 (sizeN size), .int .i64 (start % sizeN size), .int .i64 (end_ % sizeN size), vS, vF]⟩)) := by
  have hX := X23_eq
  obtain ⟨hN1, hN7⟩ := sizeN_in size
  have hsz := sizeN_eq size
  simp only [Tryd.f23, Option.getD_some]
  generalize sizeN size = N at hN1 hN7 hsz
  simp (disch := omega) only [go_sem, ↓IntWalk.iteOmega, IntWalk.toNatUp, Nat.reduceEqDiff, Nat.reduceAdd, Nat.reduceMul, Nat.reduceSub, Nat.reduceLT, Nat.reduceLeDiff, Int.reduceToNat, Int.reduceLT, Int.reduceLE, Int.reduceEq, Int.reduceAdd, Int.reduceSub, Int.reduceMul, Int.toNat_natCast, reduceCtorEq, decide_true, decide_false, IntWalk.i64_in, IntWalk.u64_in, IntWalk.u8_in, nz23', hX, hsz.symm]
  have hmS : ∀ x : Int, 0 ≤ x % (N : Int) ∧ x % (N : Int) < N := fun x => ⟨Int.emod_nonneg _ (by omega), Int.emod_lt_of_pos _ (by omega)⟩
  refine WP_loop (fun m a o nx => ∃ i vS vF, i ≤ ns.length ∧ i ≤ 14 ∧ m = 14 - i ∧ nx0 + 2 ≤ nx ∧ a 1 = slI ns ∧ a 8 = .ptr (nx0, 8) (nx0, 8) 0 ∧ a 9 = .ptr (nx0 + 1, 9) (nx0 + 1, 9) 0 ∧ a 10 = .int .i64 i ∧
    Made o0 nx0 N (start % N) (end_ % N) (stepsOf N (ns.take i)) (freesOf N (ns.take i)) vS vF o nx ∧ o (nx0 + 1, 9) = some (.row ⟨42, 1, (nx0 + 1, 9), false, true, [.int .i64 N, .int .i64 (start % N), .int .i64 (end_ % N), vS, vF]⟩) ∧
    o (nx0, 8) = some (.row ⟨42, 1, (nx0, 8), false, true, [.int .i64 0, .int .i64 0, .int .i64 0, .nil, .nil]⟩)) 14 ?_ ?_ ?_
  · omega
  · refine ⟨0, .nil, .nil, by omega, by omega, by omega, by omega, ?_⟩
    simp (disch := omega) only [go_sem, ↓IntWalk.iteOmega, IntWalk.toNatUp, Nat.reduceEqDiff, Nat.reduceAdd, Nat.reduceMul, Nat.reduceSub, Nat.reduceLT, Nat.reduceLeDiff, Int.reduceToNat, Int.reduceLT, Int.reduceLE, Int.reduceEq, Int.reduceAdd, Int.reduceSub, Int.reduceMul, Int.toNat_natCast, reduceCtorEq, decide_true, decide_false, IntWalk.i64_in, IntWalk.u64_in, IntWalk.u8_in, List.take_zero]
    exact ⟨by omega, HS.nil, HS.nil, fun i j h => by simp (disch := omega) only [upd_fst], fun i g n h => (by cases h), fun i g n h => (by cases h)⟩
  · rintro m a o nx ⟨i, vS, vF, hi, him, rfl, hnx, h1, h8, h9, h10, hM, ho9, ho8⟩
    obtain ⟨hle, hHS, hHF, hkeep, hls, hlf⟩ := hM
    have hokS := hHS.ok
    have hokF := hHF.ok
    by_cases hlt : i < ns.length
    · by_cases hlm : i < 14
      · have hg := cI_get (s := 1) hlt
        have htk := take_succ_getD hlt 0
        have hsl := stepsOf_le N (ns.take i)
        have hfl := freesOf_le N (ns.take i)
        rw [List.length_take] at hsl hfl
        generalize ns.getD i 0 = x at hg htk
        have hfs := freesOf_snoc N (ns.take i) x
        have hss := stepsOf_snoc N (ns.take i) x
        rw [← htk] at hfs hss
        by_cases hf : x % 3 = 0
        · have hfd : isFree x = true := decide_eq_true hf
          rw [hfd, if_pos rfl] at hfs hss
          rw [List.append_nil] at hss
          rcases hHF with ⟨rfl, e2, e3⟩ | ⟨i1, g1, rfl, hi1, hrow, hlen⟩
          · simp (disch := omega) only [go_sem, ↓IntWalk.iteOmega, IntWalk.toNatUp, Nat.reduceEqDiff, Nat.reduceAdd, Nat.reduceMul, Nat.reduceSub, Nat.reduceLT, Nat.reduceLeDiff, Int.reduceToNat, Int.reduceLT, Int.reduceLE, Int.reduceEq, Int.reduceAdd, Int.reduceSub, Int.reduceMul, Int.toNat_natCast, reduceCtorEq, decide_true, decide_false, IntWalk.i64_in, IntWalk.u64_in, IntWalk.u8_in, h1, h8, h9, h10, ho9, ho8, hg, hX, hf, nz23', hokS, hokF]
            refine ⟨_, ?_, i + 1, vS, _, by omega, by omega, rfl, by omega, rfl, ⟨by omega, by rw [hss]; exact hHS.keep (fun _ _ => by simp [upd_app]) (by omega), by rw [hfs, List.length_eq_zero_iff.1 e2]; exact .inr ⟨nx + 3, _, rfl, by omega, by simp [upd_app, cP, freeOf'], rfl⟩, fun i' j' h => ?_, hls, fun i' g' n' h => (by injection h with h; injection h with h; omega)⟩, rfl⟩
            · omega
            · rw [← hkeep i' j' h]; simp (disch := omega) only [upd_fst]
          · have hi1' := by first | exact hlf i1 _ _ rfl | exact hls i1 _ _ rfl
            simp (disch := omega) only [go_sem, ↓IntWalk.iteOmega, IntWalk.toNatUp, Nat.reduceEqDiff, Nat.reduceAdd, Nat.reduceMul, Nat.reduceSub, Nat.reduceLT, Nat.reduceLeDiff, Int.reduceToNat, Int.reduceLT, Int.reduceLE, Int.reduceEq, Int.reduceAdd, Int.reduceSub, Int.reduceMul, Int.toNat_natCast, reduceCtorEq, decide_true, decide_false, IntWalk.i64_in, IntWalk.u64_in, IntWalk.u8_in, h1, h8, h9, h10, ho9, ho8, hg, hX, hf, nz23', hokS, hokF, hrow]
            refine ⟨_, ?_, i + 1, vS, _, by omega, by omega, rfl, by omega, rfl, ⟨by omega, by rw [hss]; exact hHS.keep (fun _ _ => by simp [upd_app]) (by omega), by rw [hfs, List.length_append, cP_app]; exact .inr ⟨i1, _, rfl, by omega, by simp [upd_app, cP, freeOf'], by rw [List.length_append, cP_length]; simp [cP]; omega⟩, fun i' j' h => ?_, hls, fun i' g' n' h => (by injection h with h; injection h with h; omega)⟩, rfl⟩
            · omega
            · rw [← hkeep i' j' h]; simp (disch := omega) only [upd_fst]
        · have hfd : isFree x = false := decide_eq_false hf
          rw [hfd, if_neg (by simp)] at hfs hss
          rw [List.append_nil] at hfs
          rcases hHS with ⟨rfl, e2, e3⟩ | ⟨i1, g1, rfl, hi1, hrow, hlen⟩
          · simp (disch := omega) only [go_sem, ↓IntWalk.iteOmega, IntWalk.toNatUp, Nat.reduceEqDiff, Nat.reduceAdd, Nat.reduceMul, Nat.reduceSub, Nat.reduceLT, Nat.reduceLeDiff, Int.reduceToNat, Int.reduceLT, Int.reduceLE, Int.reduceEq, Int.reduceAdd, Int.reduceSub, Int.reduceMul, Int.toNat_natCast, reduceCtorEq, decide_true, decide_false, IntWalk.i64_in, IntWalk.u64_in, IntWalk.u8_in, h1, h8, h9, h10, ho9, ho8, hg, hX, hf, nz23', hokS, hokF]
            refine ⟨_, ?_, i + 1, _, vF, by omega, by omega, rfl, by omega, rfl, ⟨by omega, by rw [hss, List.length_eq_zero_iff.1 e2]; exact .inr ⟨nx + 3, _, rfl, by omega, by simp [upd_app, cS, stepOf'], rfl⟩, by rw [hfs]; exact hHF.keep (fun _ _ => by simp [upd_app]) (by omega), fun i' j' h => ?_, fun i' g' n' h => (by injection h with h; injection h with h; omega), hlf⟩, rfl⟩
            · omega
            · rw [← hkeep i' j' h]; simp (disch := omega) only [upd_fst]
          · have hi1' := by first | exact hlf i1 _ _ rfl | exact hls i1 _ _ rfl
            simp (disch := omega) only [go_sem, ↓IntWalk.iteOmega, IntWalk.toNatUp, Nat.reduceEqDiff, Nat.reduceAdd, Nat.reduceMul, Nat.reduceSub, Nat.reduceLT, Nat.reduceLeDiff, Int.reduceToNat, Int.reduceLT, Int.reduceLE, Int.reduceEq, Int.reduceAdd, Int.reduceSub, Int.reduceMul, Int.toNat_natCast, reduceCtorEq, decide_true, decide_false, IntWalk.i64_in, IntWalk.u64_in, IntWalk.u8_in, h1, h8, h9, h10, ho9, ho8, hg, hX, hf, nz23', hokS, hokF, hrow]
            refine ⟨_, ?_, i + 1, _, vF, by omega, by omega, rfl, by omega, rfl, ⟨by omega, by rw [hss, List.length_append, cS_app]; exact .inr ⟨i1, _, rfl, by omega, by simp [upd_app, cS, stepOf'], by rw [List.length_append, cS_length]; simp [cS]; omega⟩, by rw [hfs]; exact hHF.keep (fun _ _ => by simp [upd_app]) (by omega), fun i' j' h => ?_, fun i' g' n' h => (by injection h with h; injection h with h; omega), hlf⟩, rfl⟩
            · omega
            · rw [← hkeep i' j' h]; simp (disch := omega) only [upd_fst]
      · have hie : i = 14 := by omega
        rw [hie] at hHS hHF
        simp (disch := omega) only [go_sem, ↓IntWalk.iteOmega, IntWalk.toNatUp, Nat.reduceEqDiff, Nat.reduceAdd, Nat.reduceMul, Nat.reduceSub, Nat.reduceLT, Nat.reduceLeDiff, Int.reduceToNat, Int.reduceLT, Int.reduceLE, Int.reduceEq, Int.reduceAdd, Int.reduceSub, Int.reduceMul, Int.toNat_natCast, reduceCtorEq, decide_true, decide_false, IntWalk.i64_in, IntWalk.u64_in, IntWalk.u8_in, h1, h8, h9, h10, ho9, ho8, hokS, hokF]
        exact ⟨vS, vF, ⟨by omega, hHS.keep (fun _ _ => by simp [upd_app]) (by omega), hHF.keep (fun _ _ => by simp [upd_app]) (by omega), fun i' j' h => by rw [← hkeep i' j' h]; simp (disch := omega) only [upd_fst], hls, hlf⟩, rfl⟩
    · have e : ns.take i = ns.take 14 := by rw [List.take_of_length_le (by omega), List.take_of_length_le (by omega)]
      rw [e] at hHS hHF
      simp (disch := omega) only [go_sem, ↓IntWalk.iteOmega, IntWalk.toNatUp, Nat.reduceEqDiff, Nat.reduceAdd, Nat.reduceMul, Nat.reduceSub, Nat.reduceLT, Nat.reduceLeDiff, Int.reduceToNat, Int.reduceLT, Int.reduceLE, Int.reduceEq, Int.reduceAdd, Int.reduceSub, Int.reduceMul, Int.toNat_natCast, reduceCtorEq, decide_true, decide_false, IntWalk.i64_in, IntWalk.u64_in, IntWalk.u8_in, h1, h8, h9, h10, ho9, ho8, hokS, hokF]
      exact ⟨vS, vF, ⟨by omega, hHS.keep (fun _ _ => by simp [upd_app]) (by omega), hHF.keep (fun _ _ => by simp [upd_app]) (by omega), fun i' j' h => by rw [← hkeep i' j' h]; simp (disch := omega) only [upd_fst], hls, hlf⟩, rfl⟩
theorem look23 (X) : lookedAt (EX md0 X) nz23' 4 Tryd.f23 = true := by kernel_rfl
abbrev madeV (size : Int) (ns : List Int) (start end_ : Int) : AV := nfaV (sizeN size) (start % sizeN size) (end_ % sizeN size) (stepsOf (sizeN size) (ns.take 14)) (freesOf (sizeN size) (ns.take 14))
theorem make_ok (size : Int) (ns : List Int) (start end_ : Int) : Ok Tryd.prog 23 [.int .i64 size, slI ns, .int .i64 start, .int .i64 end_] (madeV size ns start end_) := by
  refine ok_of_WP (E := EX md0 X23) (cr := noR) X23_ok (noR_ok _) mixed (k := 16) Tryd.func23 (look23 _) rfl (WP_mono (make_wp _ _ size ns start end_ _ _ (by omega)) ?_)
  rintro u a o nx ⟨rfl, vS, vF, hM, h8, ho8⟩
  have v1 := hM.s.view 10
  have v2 := hM.f.view 10
  rw [view_cS] at v1
  rw [view_cP] at v2
  refine ⟨.inr rfl, ?_⟩
  simp only [Tryd.f23]
  simp (disch := omega) only [go_sem, ↓IntWalk.iteOmega, IntWalk.toNatUp, Nat.reduceEqDiff, Nat.reduceAdd, Nat.reduceMul, Nat.reduceSub, Nat.reduceLT, Nat.reduceLeDiff, Int.reduceToNat, Int.reduceLT, Int.reduceLE, Int.reduceEq, Int.reduceAdd, Int.reduceSub, Int.reduceMul, Int.toNat_natCast, reduceCtorEq, decide_true, decide_false, IntWalk.i64_in, IntWalk.u64_in, IntWalk.u8_in, h8, ho8, v1, v2]
end Go.Proofs.YtbapebepmbikhaaDoor.A
/- Machines of one way out of machines of many: what is told of them; the laws' table. -/
namespace Go.Proofs.YtbapebepmbikhaaDoor.A
open Go
set_option maxRecDepth 20000
theorem subM_mid {N : Nat} {S : Int} {ss fs} {cap : Nat} {L : List (List Bool)} {R : List Nat} (h : subM N S ss fs cap = some (L, R)) : MidS (fS N ss fs) (t0S N S fs) L.length L R ∧ ∀ b ∈ L, b.length = N :=
  ⟨bfsS_mid (MidS.start _) h, bfsS_all (fun b => b.length = N) (fun x m _ => fS_length N ss fs x m) (fun y hy => by rw [List.mem_singleton.1 hy]; exact t0S_length N S fs) h⟩
/-- Of few states there are few sets: it is told. -/
theorem subM_few {N : Nat} (hN : N ≤ 7) (S : Int) (ss fs) : ∃ L R, subM N S ss fs 300 = some (L, R) ∧ L.length ≤ 128 := by
  have hp : ∀ L : List (List Bool), L.Nodup → (∀ y ∈ L, y.length = N) → L.length ≤ 128 := fun L h1 h2 => by
    have := bools_le N L h1 h2
    have h3 : 2 ^ N ≤ 2 ^ 7 := Nat.pow_le_pow_right (by omega) hN
    omega
  obtain ⟨L, R, h1, h2⟩ := bfsS_some (f := fS N ss fs) (cap := 300) (fun b => b.length = N) (fun x m _ => fS_length N ss fs x m) (fun L h1 h2 => by have := hp L h1 h2; omega) (k := 1002) (i := 0) (S := [t0S N S fs]) (R := []) (by simp) (fun y hy => by rw [List.mem_singleton.1 hy]; exact t0S_length N S fs) (by simp) (by omega)
  exact ⟨L, R, h1, hp L (bfsS_mid (MidS.start _) h1).nodup h2⟩
theorem subM_pos {N : Nat} {S : Int} {ss fs} {cap : Nat} {L : List (List Bool)} {R : List Nat} (h : subM N S ss fs cap = some (L, R)) : 1 ≤ L.length := by
  have := (subM_mid h).1.head
  exact (List.getElem?_eq_some_iff.1 this).1
theorem subM_wf {N : Nat} {S F : Int} {ss fs} {cap : Nat} {L : List (List Bool)} {R : List Nat} (h : subM N S ss fs cap = some (L, R)) (hL : L.length ≤ 1000) : WfD L.length (natI R) (accS F L) := by
  have hm := (subM_mid h).1
  have hp := subM_pos h
  have hR := hm.len
  refine ⟨⟨hp, by omega⟩, by rw [natI_length]; omega, accS_length F L, fun y hy => ?_⟩
  obtain ⟨q0, hq0, rfl⟩ := List.mem_map.1 hy
  obtain ⟨k, hk, hke⟩ := List.getElem_of_mem hq0
  obtain ⟨x, q, h1, h2, h3⟩ := hm.leads (k / 5) (k % 5) (by omega) (by omega)
  rw [show 5 * (k / 5) + k % 5 = k by omega] at h2
  have hq := (List.getElem?_eq_some_iff.1 h3).1
  rw [List.getElem?_eq_getElem hk, hke] at h2
  injection h2 with h2
  subst h2
  show 0 ≤ (q0 : Int) ∧ (q0 : Int) < _
  omega
def RSubC (args : List AV) (r : AV) : Prop := ∃ (N : Nat) (S F : Int) (ss : List St3) (fs : List (Int × Int)) (cap : Nat), N ≤ 1000 ∧ Wf N S F ss fs ∧ ss.length ≤ 1000 ∧ 1 ≤ cap ∧ cap ≤ 1000 ∧ args = [nfaV N S F ss fs, .int .i64 cap] ∧ r = subV F (subM N S ss fs cap)
theorem RSubC_fn : Fun1 RSubC := by
  rintro args r r' ⟨N, S, F, ss, fs, cap, _, _, _, _, _, rfl, rfl⟩ ⟨N', S', F', ss', fs', cap', _, _, _, _, _, h, rfl⟩
  simp only [List.cons.injEq, AV.int.injEq, true_and, and_true] at h
  obtain ⟨h0, h1⟩ := h
  obtain ⟨e1, e2, e3, e4, e5⟩ := nfaV_inj h0
  have e1 : N = N' := by omega
  have e6 : cap = cap' := by omega
  rw [e1, e2, e3, e4, e5, e6]
theorem RSubC_dfa (args r) (h : RSubC args r) : Ok Tryd.prog 24 args r := by obtain ⟨N, S, F, ss, fs, cap, h1, h2, h3, h4, h5, rfl, rfl⟩ := h; exact sub_ok N S F ss fs h1 h2 h3 cap h4 h5
theorem RSubC_ref (args r) (h : RSubC args r) : Ok Tryd.prog 25 args r := by obtain ⟨N, S, F, ss, fs, cap, h1, h2, h3, h4, h5, rfl, rfl⟩ := h; exact rsub_ok N S F ss fs h2 cap h4 h5
def RSm7 (args : List AV) (r : AV) : Prop := ∃ (n : Nat) (N : List Int) (A : List Bool), N.length = 5 * n ∧ A.length = n ∧ n ≤ 100000 ∧ args = [dfaV n N A, dfaV n N A] ∧ r = .bool true
theorem RSm7_fn : Fun1 RSm7 := by
  rintro args r r' ⟨_, _, _, _, _, _, _, rfl⟩ ⟨_, _, _, _, _, _, _, rfl⟩
  rfl
theorem RSm7_ok (args r) (h : RSm7 args r) : Ok Tryd.prog 26 args r := by obtain ⟨n, N, A, h1, h2, h3, rfl, rfl⟩ := h; exact same7_ok n N A h1 h2 h3
def RMk6 (args : List AV) (r : AV) : Prop := ∃ (size : Int) (ns : List Int) (start end_ : Int), args = [.int .i64 size, slI ns, .int .i64 start, .int .i64 end_] ∧ r = madeV size ns start end_
theorem RMk6_fn : Fun1 RMk6 := by
  rintro args r r' ⟨a, b, c, d, rfl, rfl⟩ ⟨a', b', c', d', h, rfl⟩
  simp only [List.cons.injEq, AV.int.injEq, AV.sl.injEq, true_and, and_true] at h
  obtain ⟨h1, ⟨_, h2⟩, h3, h4⟩ := h
  rw [h1, cI_inj h2, h3, h4]
theorem RMk6_ok (args r) (h : RMk6 args r) : Ok Tryd.prog 23 args r := by obtain ⟨a, b, c, d, rfl, rfl⟩ := h; exact make_ok a b c d
def RRun6 (args : List AV) (r : AV) : Prop := ∃ (N : Nat) (S F : Int) (ss : List (Int × Int × Int)) (fs : List (Int × Int)) (w : List Int), Wf N S F ss fs ∧ w.length ≤ 1000000 ∧ args = [nfaV N S F ss fs, slI w] ∧ r = .bool (runB N S F ss fs w)
theorem RRun6_fn : Fun1 RRun6 := by
  rintro args r r' ⟨N, S, F, ss, fs, w, _, _, rfl, rfl⟩ ⟨N', S', F', ss', fs', w', _, _, h, rfl⟩
  simp only [List.cons.injEq, and_true] at h
  obtain ⟨h1, h2, h3, h4, h5⟩ := nfaV_inj h.1
  have h1 : N = N' := by omega
  rw [h1, h2, h3, h4, h5, slI_inj h.2]
theorem RRun6_ok (args r) (h : RRun6 args r) : Ok Tryd.prog 31 args r := by obtain ⟨N, S, F, ss, fs, w, h1, h2, rfl, rfl⟩ := h; exact refRun_ok N S F ss fs h1 w h2
def RChk7 (args : List AV) (r : AV) : Prop := ∃ (n : Nat) (N : List Int) (A : List Bool), WfD n N A ∧ args = [dfaV n N A] ∧ r = .bool true
theorem RChk7_fn : Fun1 RChk7 := by rintro args r r' ⟨_, _, _, _, _, rfl⟩ ⟨_, _, _, _, _, rfl⟩; rfl
theorem chkD_wf {n N A} (h : WfD n N A) : chkD n N A = true := by
  unfold chkD
  rw [decide_eq_true ⟨h.sz.1, h.sz.2, h.a⟩, Bool.true_and]
  exact List.all_eq_true.2 fun x hx => decide_eq_true (h.e x hx)
theorem RChk7_ok (args r) (h : RChk7 args r) : Ok Tryd.prog 15 args r := by
  obtain ⟨n, N, A, h1, rfl, rfl⟩ := h
  have := dchk_ok n N A h1.l
  rwa [chkD_wf h1] at this
noncomputable def XL8 : FuncId → List AV → Option AV := tabLook [(12, tRel RKn7), (23, tRel RMk6), (17, tRel RW), (24, tRel RSubC), (25, tRel RSubC), (26, tRel RSm7), (15, tRel RChk7), (19, tRel RGoD), (31, tRel RRun6), (18, tRel RWord)]
theorem XL8_ok : CPSound Tryd.prog XL8 := tab_cons (tab_cons (tab_cons (tab_cons (tab_cons (tab_cons (tab_cons (tab_cons (tab_cons (tab_cons (tab_nil _) (tRel_ok RWord_ok)) (tRel_ok RRun6_ok)) (tRel_ok RGoD_dfa)) (tRel_ok RChk7_ok)) (tRel_ok RSm7_ok)) (tRel_ok RSubC_ref)) (tRel_ok RSubC_dfa)) (tRel_ok within3_ok)) (tRel_ok RMk6_ok)) (tRel_ok RKn7_ok)
theorem XL8_known : XL8 12 [] = some (.bool true) := tRel_eq (R := RKn7) RKn7_fn ⟨rfl, rfl⟩
theorem XL8_make (size : Int) (ns : List Int) (start end_ : Int) : XL8 23 [.int .i64 size, slI ns, .int .i64 start, .int .i64 end_] = some (madeV size ns start end_) := tRel_eq (R := RMk6) RMk6_fn ⟨_, _, _, _, rfl, rfl⟩
theorem XL8_within (a n : Int) (h1 : 0 < n) (h2 : n ≤ 1000000) : XL8 17 [.int .i64 a, .int .i64 n] = some (.int .i64 (a % n)) := rw_eq h1 h2
theorem XL8_sub {N : Nat} {S F : Int} {ss fs} (cap : Nat) (h1 : N ≤ 1000) (h2 : Wf N S F ss fs) (h3 : ss.length ≤ 1000) (h4 : 1 ≤ cap) (h5 : cap ≤ 1000) : XL8 24 [nfaV N S F ss fs, .int .i64 cap] = some (subV F (subM N S ss fs cap)) := tRel_eq (R := RSubC) RSubC_fn ⟨_, _, _, _, _, _, h1, h2, h3, h4, h5, rfl, rfl⟩
theorem XL8_rsub {N : Nat} {S F : Int} {ss fs} (cap : Nat) (h1 : N ≤ 1000) (h2 : Wf N S F ss fs) (h3 : ss.length ≤ 1000) (h4 : 1 ≤ cap) (h5 : cap ≤ 1000) : XL8 25 [nfaV N S F ss fs, .int .i64 cap] = some (subV F (subM N S ss fs cap)) := tRel_eq (R := RSubC) RSubC_fn ⟨_, _, _, _, _, _, h1, h2, h3, h4, h5, rfl, rfl⟩
theorem XL8_same {n : Nat} {N : List Int} {A : List Bool} (h1 : N.length = 5 * n) (h2 : A.length = n) (h3 : n ≤ 100000) : XL8 26 [dfaV n N A, dfaV n N A] = some (.bool true) := tRel_eq (R := RSm7) RSm7_fn ⟨_, _, _, h1, h2, h3, rfl, rfl⟩
theorem XL8_chk {n : Nat} {N : List Int} {A : List Bool} (h : WfD n N A) : XL8 15 [dfaV n N A] = some (.bool true) := tRel_eq (R := RChk7) RChk7_fn ⟨_, _, _, h, rfl, rfl⟩
theorem XL8_go {n N A} (hw : WfD n N A) (s : Int) (w : List Int) (hl : w.length ≤ 1000000) : XL8 19 [dfaV n N A, .int .i64 s, slI w] = some (.int .i64 (goFull n N s w)) := tRel_eq (R := RGoD) RGoD_fn ⟨_, _, _, _, _, hw, hl, rfl, rfl⟩
theorem XL8_rrun {N : Nat} {S F : Int} {ss fs} (hw : Wf N S F ss fs) (w : List Int) (h : w.length ≤ 1000000) : XL8 31 [nfaV N S F ss fs, slI w] = some (.bool (runB N S F ss fs w)) := tRel_eq (R := RRun6) RRun6_fn ⟨_, _, _, _, _, _, hw, h, rfl, rfl⟩
theorem XL8_word (ns : List Int) (most few : Int) (h : 0 ≤ most ∧ most ≤ 1000) : XL8 18 [slI ns, .int .i64 most, .int .i64 few] = some (slI (wordOf ns most few)) := tRel_eq (R := RWord) RWord_fn ⟨_, _, _, h, rfl, rfl⟩
end Go.Proofs.YtbapebepmbikhaaDoor.A
namespace Go.Proofs.YtbapebepmbikhaaDoor.A
open Go
set_option maxRecDepth 20000
def RBuildQ (args : List AV) (r : AV) : Prop := ∃ x, okQ x = true ∧ args = [nodeV x] ∧ r = builtV (bPart x b0)
theorem RBuildQ_fn : Fun1 RBuildQ := by
  rintro args r r' ⟨x, _, rfl, rfl⟩ ⟨x', _, h, rfl⟩
  simp only [List.cons.injEq, AV.agg.injEq, and_true] at h
  rw [cNd_inj h]
theorem RBuildQ_ok (args r) (h : RBuildQ args r) : Ok Tryd.prog 29 args r := by obtain ⟨x, h1, rfl, rfl⟩ := h; exact refBuild_ok h1
def RFew4 (args : List AV) (r : AV) : Prop := ∃ l, args = [slR l] ∧ r = .bool (fewR l)
theorem RFew4_fn : Fun1 RFew4 := by
  rintro args r r' ⟨x, rfl, rfl⟩ ⟨x', h, rfl⟩
  simp only [List.cons.injEq, AV.sl.injEq, and_true] at h
  rw [cRws_inj h.2]
theorem RFew4_ok (args r) (h : RFew4 args r) : Ok Tryd.prog 27 args r := by obtain ⟨x, rfl, rfl⟩ := h; exact few4_ok x
def ROne4 (args : List AV) (r : AV) : Prop := ∃ l, args = [slR l] ∧ r = nodeV (oneN l)
theorem ROne4_fn : Fun1 ROne4 := by
  rintro args r r' ⟨x, rfl, rfl⟩ ⟨x', h, rfl⟩
  simp only [List.cons.injEq, AV.sl.injEq, and_true] at h
  rw [cRws_inj h.2]
theorem ROne4_ok (args r) (h : ROne4 args r) : Ok Tryd.prog 28 args r := by obtain ⟨x, rfl, rfl⟩ := h; exact one_ok x
noncomputable def XL9 : FuncId → List AV → Option AV := tabLook [(12, tRel RKn7), (27, tRel RFew4), (28, tRel ROne4), (29, tRel RBuildQ), (24, tRel RSubC), (25, tRel RSubC), (26, tRel RSm7)]
theorem XL9_ok : CPSound Tryd.prog XL9 := tab_cons (tab_cons (tab_cons (tab_cons (tab_cons (tab_cons (tab_cons (tab_nil _) (tRel_ok RSm7_ok)) (tRel_ok RSubC_ref)) (tRel_ok RSubC_dfa)) (tRel_ok RBuildQ_ok)) (tRel_ok ROne4_ok)) (tRel_ok RFew4_ok)) (tRel_ok RKn7_ok)
theorem XL9_known : XL9 12 [] = some (.bool true) := tRel_eq (R := RKn7) RKn7_fn ⟨rfl, rfl⟩
theorem XL9_few (l) : XL9 27 [slR l] = some (.bool (fewR l)) := tRel_eq (R := RFew4) RFew4_fn ⟨_, rfl, rfl⟩
theorem XL9_one (l) : XL9 28 [slR l] = some (nodeV (oneN l)) := tRel_eq (R := ROne4) ROne4_fn ⟨_, rfl, rfl⟩
theorem XL9_build {x : Nd} (h1 : okQ x = true) : XL9 29 [nodeV x] = some (builtV (bPart x b0)) := tRel_eq (R := RBuildQ) RBuildQ_fn ⟨_, h1, rfl, rfl⟩
theorem XL9_sub {N : Nat} {S F : Int} {ss fs} (cap : Nat) (h1 : N ≤ 1000) (h2 : Wf N S F ss fs) (h3 : ss.length ≤ 1000) (h4 : 1 ≤ cap) (h5 : cap ≤ 1000) : XL9 24 [nfaV N S F ss fs, .int .i64 cap] = some (subV F (subM N S ss fs cap)) := tRel_eq (R := RSubC) RSubC_fn ⟨_, _, _, _, _, _, h1, h2, h3, h4, h5, rfl, rfl⟩
theorem XL9_rsub {N : Nat} {S F : Int} {ss fs} (cap : Nat) (h1 : N ≤ 1000) (h2 : Wf N S F ss fs) (h3 : ss.length ≤ 1000) (h4 : 1 ≤ cap) (h5 : cap ≤ 1000) : XL9 25 [nfaV N S F ss fs, .int .i64 cap] = some (subV F (subM N S ss fs cap)) := tRel_eq (R := RSubC) RSubC_fn ⟨_, _, _, _, _, _, h1, h2, h3, h4, h5, rfl, rfl⟩
theorem XL9_same {n : Nat} {N : List Int} {A : List Bool} (h1 : N.length = 5 * n) (h2 : A.length = n) (h3 : n ≤ 100000) : XL9 26 [dfaV n N A, dfaV n N A] = some (.bool true) := tRel_eq (R := RSm7) RSm7_fn ⟨_, _, _, h1, h2, h3, rfl, rfl⟩
theorem lookDCaps : lookedAt (EX md0 XL9) (fun _ => none) 1 Tryd.f8 = true := by kernel_rfl
theorem dcaps_ok (l : List Rw) : Ok Tryd.prog 8 [slR l] (.bool true) := by
  refine ok_of_WP (E := EX md0 XL9) (cr := noR) XL9_ok (noR_ok _) mixed (k := 0) Tryd.func8 lookDCaps rfl ?_
  have hkn := XL9_known
  have hfw := XL9_few l
  have hon := XL9_one l
  simp only [Tryd.f8, Option.getD_some]
  by_cases hf : fewR l = true
  · obtain ⟨t1, t2, t3⟩ := oneN_ok hf
    have hqb := XL9_build t1
    rw [hf] at hfw
    by_cases hn : (bPart (oneN l) b0).2.n > 1000
    · rw [show builtV (bPart (oneN l) b0) = .tup [nfaV 0 0 0 [] [], .int .i64 4] from if_pos hn] at hqb
      simp (disch := omega) only [go_sem, ↓IntWalk.iteOmega, IntWalk.toNatUp, Nat.reduceEqDiff, Nat.reduceAdd, Nat.reduceMul, Nat.reduceSub, Nat.reduceLT, Nat.reduceLeDiff, Int.reduceToNat, Int.reduceLT, Int.reduceLE, Int.reduceEq, Int.reduceAdd, Int.reduceSub, Int.reduceMul, Int.toNat_natCast, reduceCtorEq, decide_true, decide_false, IntWalk.i64_in, IntWalk.u64_in, IntWalk.u8_in, hkn, hfw, hon, hqb]
    · rw [show builtV (bPart (oneN l) b0) = .tup [nfaV (bPart (oneN l) b0).2.n (bPart (oneN l) b0).1.1 (bPart (oneN l) b0).1.2 (bPart (oneN l) b0).2.s (bPart (oneN l) b0).2.f, .int .i64 0] from if_neg hn] at hqb
      obtain ⟨hw, hss⟩ := built_wf (okQ_N _ t1) t2 (by omega)
      generalize (bPart (oneN l) b0).2.n = N at *
      generalize (bPart (oneN l) b0).1.1 = S at *
      generalize (bPart (oneN l) b0).1.2 = F at *
      generalize (bPart (oneN l) b0).2.s = ss at *
      generalize (bPart (oneN l) b0).2.f = fs at *
      have hs1 : XL9 25 [nfaV N S F ss fs, .int .i64 300] = _ := XL9_rsub 300 (by omega) hw hss (by omega) (by omega)
      cases hm : subM N S ss fs 300 with
      | none =>
        rw [hm] at hs1
        change _ = some (AV.tup [.agg [.sl 0 [], .sl 0 []], .int .i64 5]) at hs1
        simp (disch := omega) only [go_sem, ↓IntWalk.iteOmega, IntWalk.toNatUp, Nat.reduceEqDiff, Nat.reduceAdd, Nat.reduceMul, Nat.reduceSub, Nat.reduceLT, Nat.reduceLeDiff, Int.reduceToNat, Int.reduceLT, Int.reduceLE, Int.reduceEq, Int.reduceAdd, Int.reduceSub, Int.reduceMul, Int.toNat_natCast, reduceCtorEq, decide_true, decide_false, IntWalk.i64_in, IntWalk.u64_in, IntWalk.u8_in, hkn, hfw, hon, hqb, hs1]
      | some p =>
        obtain ⟨L, R⟩ := p
        rw [hm] at hs1
        change _ = some (AV.tup [dfaV L.length (natI R) (accS F L), .int .i64 0]) at hs1
        obtain ⟨_, hL3, hcap⟩ := bfsS_cap (by simp) hm
        have hpos := subM_pos hm
        have hwd := subM_wf (F := F) hm (by omega)
        have hsm := XL9_same hwd.l hwd.a (by omega)
        have hs2 := XL9_sub (F := F) L.length (by omega) hw hss hpos (by omega)
        rw [show subM N S ss fs L.length = some (L, R) from (hcap L.length).1 (Nat.le_refl _)] at hs2
        change _ = some (AV.tup [dfaV L.length (natI R) (accS F L), .int .i64 0]) at hs2
        by_cases h1 : L.length = 1
        · have h1' : (L.length : Int) = 1 := by omega
          rw [h1'] at hs2
          simp (disch := omega) only [go_sem, ↓IntWalk.iteOmega, IntWalk.toNatUp, Nat.reduceEqDiff, Nat.reduceAdd, Nat.reduceMul, Nat.reduceSub, Nat.reduceLT, Nat.reduceLeDiff, Int.reduceToNat, Int.reduceLT, Int.reduceLE, Int.reduceEq, Int.reduceAdd, Int.reduceSub, Int.reduceMul, Int.toNat_natCast, reduceCtorEq, decide_true, decide_false, IntWalk.i64_in, IntWalk.u64_in, IntWalk.u8_in, hkn, hfw, hon, hqb, hs1, hs2, hsm, h1']
        · have hs3 := XL9_sub (F := F) (L.length - 1) (by omega) hw hss (by omega) (by omega)
          rw [show subM N S ss fs (L.length - 1) = none from (hcap (L.length - 1)).2 (by omega) (by simp; omega), show (((L.length - 1 : Nat) : Int)) = (L.length : Int) - 1 by omega] at hs3
          change _ = some (AV.tup [.agg [.sl 0 [], .sl 0 []], .int .i64 5]) at hs3
          have h1' : ¬ (L.length : Int) = 1 := by omega
          simp (disch := omega) only [go_sem, ↓IntWalk.iteOmega, IntWalk.toNatUp, Nat.reduceEqDiff, Nat.reduceAdd, Nat.reduceMul, Nat.reduceSub, Nat.reduceLT, Nat.reduceLeDiff, Int.reduceToNat, Int.reduceLT, Int.reduceLE, Int.reduceEq, Int.reduceAdd, Int.reduceSub, Int.reduceMul, Int.toNat_natCast, reduceCtorEq, decide_true, decide_false, IntWalk.i64_in, IntWalk.u64_in, IntWalk.u8_in, hkn, hfw, hon, hqb, hs1, hs2, hs3, hsm, h1']
  · rw [Bool.not_eq_true] at hf
    rw [hf] at hfw
    simp (disch := omega) only [go_sem, ↓IntWalk.iteOmega, IntWalk.toNatUp, Nat.reduceEqDiff, Nat.reduceAdd, Nat.reduceMul, Nat.reduceSub, Nat.reduceLT, Nat.reduceLeDiff, Int.reduceToNat, Int.reduceLT, Int.reduceLE, Int.reduceEq, Int.reduceAdd, Int.reduceSub, Int.reduceMul, Int.toNat_natCast, reduceCtorEq, decide_true, decide_false, IntWalk.i64_in, IntWalk.u64_in, IntWalk.u8_in, hkn, hfw]
end Go.Proofs.YtbapebepmbikhaaDoor.A

namespace Go.Proofs.YtbapebepmbikhaaDoor
open Go Go.Proofs.YtbapebepmbikhaaDoor.A
set_option maxRecDepth 100000 in
theorem dfaCaps_lifted (os : Os) (started : os.Started) (H : Type) (enc : TypeId × Value → H) :
    ReturnsInHanded {} Tryd.checked os 8 .any (fun w args => (Rows.dfaCapsSpec.pre enc Tryd.prog Tryd.f8 [] false w args ∧ laidMetH Tryd.prog laidL w) ∧ sizedMet enc Tryd.prog Tryd.f8 (OpenSpec.ofChange Rows.dfaCapsSpec) false w args) (Rows.dfaCapsSpec.post enc Tryd.prog Tryd.f8 false true false false) :=
  law_laid (C := Tryd.checked) (L := laidL) laidL_noh Tryd.own started (by kernel_rfl) Tryd.func8
    (ChangeSpec.witness_at (enc := enc) (C := Tryd.checked) (os := os) (X := fun w _ => laidMetH Tryd.prog laidL w) false (laidWorld os) #[.slice none 0 0] 8 rfl (by kernel_rfl) (by kernel_rfl) (by kernel_rfl) (by kernel_rfl) (by kernel_rfl) (laidWorld_met os _))
    Tryd.laidOut (ks := [51, 86, 3]) (by kernel_rfl) (by kernel_rfl) (tb := 4) (by kernel_rfl) (by kernel_rfl) rfl
    (fun ds hds => by
      match ds, hds with
      | [_], _ => exact ⟨rfl, rfl, rfl⟩)
    laid_gl (fun xs hxs => by
      rw [show Tryd.f8.params.toList = [51] from rfl] at hxs
      match xs, hxs with
      | [x1], ⟨h1, _⟩ =>
        obtain ⟨n1, rfl⟩ := arg_raws h1
        exact dcaps_ok n1)
theorem dfaCaps_row_holds : Rows.DfaCapsSaid :=
  OpenClaim.holds_of_wide 8 Tryd.f8 rfl rfl rfl rfl rfl rfl rfl ⟨rfl, rfl, rfl, rfl, rfl⟩ rfl rfl rfl rfl rfl (by kernel_rfl) Tryd.func8 (by kernel_rfl)
    (of_decide_eq_true (by kernel_rfl)) (by unfold Func.isWrapper; first | (rw [if_pos (by decide +kernel)]; kernel_rfl) | (rw [if_neg (by decide +kernel)]; exact ⟨rfl, rfl⟩))
    (fun os started H enc _ => dfaCaps_lifted os started H enc)
theorem dfaCaps_card_holds : Rows.DfaCapsCardSaid :=
  Claim7.holds_tied_plain_at .later [] [.data, .data, .data] true (true, "37a9852a9fe75bae8ecdd51a9f1ba6b5666322df2f7c2966bcd7feade69f371f") false
    dfaCaps_row_holds (fun _ h => by cases h) (by kernel_rfl) (fun _ h => by cases h) dfaCaps_row_tie rfl ⟨rfl, rfl⟩ (by kernel_rfl) rfl
    (fun f fn hf hfn => by
      obtain rfl : f = 8 := (Option.some.inj ((show Tryd.prog.funcNamed "milestone/milestonelaw7.DfaCaps" = some 8 by kernel_rfl).symm.trans hf)).symm
      obtain rfl : fn = Tryd.f8 := (Option.some.inj (Tryd.func8.symm.trans hfn)).symm
      refine ⟨by kernel_rfl, fun j t ht => ?_⟩
      exact (wants_all (by kernel_rfl : (Tryd.f8.params.toList.all fun t => !Tryd.prog.wantsStandIn t) = true) ht))
    (by kernel_rfl)
end Go.Proofs.YtbapebepmbikhaaDoor
