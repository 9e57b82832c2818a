/- MiniAll answers true for whatever it is called with; the input reads as it did. -/
import Derived.Test.YtpmjpogcaglphaaDoorMLMAll1
import Derived.Test.YtpmjpogcaglphaaDoorMLMAll2
import Derived.Test.YtpmjpogcaglphaaDoorMLMAll3
import Derived.Test.YtpmjpogcaglphaaDoorMLMAll4
import Derived.Test.YtpmjpogcaglphaaDoorMLMAll5
import Derived.Test.YtpmjpogcaglphaaDoorMLMAll6
import Derived.Test.YtpmjpogcaglphaaDoorMLMAll7
import Derived.Test.YtpmjpogcaglphaaDoorMLMAll8
set_option linter.unusedVariables false
set_option linter.unusedSimpArgs false
set_option linter.unnecessarySimpa false
/- The table of contracts for the laws of least machines that read no text. -/
namespace Go.Proofs.YtpmjpogcaglphaaDoor.A
open Go
set_option maxRecDepth 20000
abbrev dV (n : Nat) (N : List Int) (A : List Bool) : AV := .agg [.sl n (cI N), .sl n (cB A)]
theorem dV_of {n : Nat} {N : List Int} {A : List Bool} (h : A.length = n) : dfaV n N A = dV n N A := by rw [dfaV, slB, h]
theorem chkD_true {n N A} (h : WfD n N A) : chkD n N A = true := by
  have hn := h.sz
  have ha := h.a
  unfold chkD
  rw [decide_eq_true (by omega), Bool.true_and, List.all_eq_true]
  exact fun x hx => decide_eq_true (h.e x hx)
def RChk0 (args : List AV) (r : AV) : Prop := ∃ (n : Nat) (N : List Int) (A : List Bool), WfD n N A ∧ args = [dfaV n N A] ∧ r = .bool true
theorem RChk0_fn : Fun1 RChk0 := by rintro args r r' ⟨_, _, _, _, _, rfl⟩ ⟨_, _, _, _, _, rfl⟩; rfl
theorem RChk0_ok (args r) (h : RChk0 args r) : Ok Tryd.prog 21 args r := by
  obtain ⟨n, N, A, h1, rfl, rfl⟩ := h
  rw [← chkD_true h1]
  exact rchk_ok n N A h1.l
def RRn (args : List AV) (r : AV) : Prop := ∃ (n : Nat) (N : List Int) (A : List Bool) (w : List Int), WfD n N A ∧ w.length ≤ 1000000 ∧ args = [dfaV n N A, slI w] ∧ r = .bool (runD n N A w)
theorem RRn_fn : Fun1 RRn := by
  rintro args r r' ⟨n, N, A, w, _, _, rfl, rfl⟩ ⟨n', N', A', w', _, _, h, rfl⟩
  simp only [List.cons.injEq, and_true] at h
  obtain ⟨h1, h2, h3⟩ := dfaV_inj h.1
  rw [h1, h2, h3, slI_inj h.2]
theorem RRn_ok (args r) (h : RRn args r) : Ok Tryd.prog 32 args r := by obtain ⟨n, N, A, w, h1, h2, rfl, rfl⟩ := h; exact drun1_ok h1 w h2
noncomputable def XM0 : FuncId → List AV → Option AV := tabLook [(14, tRel RKn8), (15, tRel RMk7), (16, tRel RMin), (18, tRel RMin), (17, tRel RSa), (27, tRel RSa), (19, tRel RStM), (20, tRel RStM), (21, tRel RChk0), (31, tRel RGoD), (32, tRel RRn), (29, tRel RWord), (30, tRel RW)]
theorem XM0_ok : CPSound Tryd.prog XM0 := tab_cons (tab_cons (tab_cons (tab_cons (tab_cons (tab_cons (tab_cons (tab_cons (tab_cons (tab_cons (tab_cons (tab_cons (tab_cons (tab_nil _) (tRel_ok within4_ok)) (tRel_ok RWord_ok)) (tRel_ok RRn_ok)) (tRel_ok RGoD_ref)) (tRel_ok RChk0_ok)) (tRel_ok RStM_ref)) (tRel_ok RStM_mini)) (tRel_ok RSa_mini)) (tRel_ok RSa_ref)) (tRel_ok RMin_ref)) (tRel_ok RMin_mini)) (tRel_ok RMk7_ok)) (tRel_ok RKn8_ok)
theorem XM0_known : XM0 14 [] = some (.bool true) := tRel_eq (R := RKn8) RKn8_fn ⟨rfl, rfl⟩
theorem XM0_make (size : Int) (ns : List Int) (acc : Int) : XM0 15 [.int .i64 size, slI ns, .int .i64 acc] = some (dV (size7 size) (N7 size ns acc) (A7 size acc)) := by
  rw [← dV_of (accs7_len acc (size7 size))]
  exact tRel_eq (R := RMk7) RMk7_fn ⟨_, _, _, rfl, rfl⟩
theorem XM0_min {n N A} (h : WfD n N A) : XM0 16 [dV n N A] = some (dV (minA N A).length (minN N A) (minA N A)) := by
  rw [← dV_of h.a, ← dV_of rfl]
  exact tRel_eq (R := RMin) RMin_fn ⟨_, _, _, h, rfl, rfl⟩
theorem XM0_rmin {n N A} (h : WfD n N A) : XM0 18 [dV n N A] = some (dV (minA N A).length (minN N A) (minA N A)) := by
  rw [← dV_of h.a, ← dV_of rfl]
  exact tRel_eq (R := RMin) RMin_fn ⟨_, _, _, h, rfl, rfl⟩
theorem XM0_same {n N A k M B} (h : WfD n N A) (h' : WfD k M B) : XM0 27 [dV n N A, dV k M B] = some (.bool (decide (A = B ∧ N = M))) := by
  rw [← dV_of h.a, ← dV_of h'.a]
  exact tRel_eq (R := RSa) RSa_fn ⟨_, _, _, _, _, _, h.l, h'.l, by have := h.sz; omega, h.a, h'.a, rfl, rfl⟩
theorem XM0_rsame {n N A k M B} (h : WfD n N A) (h' : WfD k M B) : XM0 17 [dV n N A, dV k M B] = some (.bool (decide (A = B ∧ N = M))) := by
  rw [← dV_of h.a, ← dV_of h'.a]
  exact tRel_eq (R := RSa) RSa_fn ⟨_, _, _, _, _, _, h.l, h'.l, by have := h.sz; omega, h.a, h'.a, rfl, rfl⟩
theorem XM0_st {n N A} (h : WfD n N A) : XM0 19 [dV n N A] = some (.bool (steadyM n N)) := by
  rw [← dV_of h.a]
  exact tRel_eq (R := RStM) RStM_fn ⟨_, _, _, h, rfl, rfl⟩
theorem XM0_rst {n N A} (h : WfD n N A) : XM0 20 [dV n N A] = some (.bool (steadyM n N)) := by
  rw [← dV_of h.a]
  exact tRel_eq (R := RStM) RStM_fn ⟨_, _, _, h, rfl, rfl⟩
theorem XM0_chk {n N A} (h : WfD n N A) : XM0 21 [dV n N A] = some (.bool true) := by
  rw [← dV_of h.a]
  exact tRel_eq (R := RChk0) RChk0_fn ⟨_, _, _, h, rfl, rfl⟩
theorem XM0_go {n N A} (h : WfD n N A) (s : Int) (w : List Int) (hl : w.length ≤ 1000000) : XM0 31 [dV n N A, .int .i64 s, slI w] = some (.int .i64 (goFull n N s w)) := by
  rw [← dV_of h.a]
  exact tRel_eq (R := RGoD) RGoD_fn ⟨_, _, _, _, _, h, hl, rfl, rfl⟩
theorem XM0_run {n N A} (h : WfD n N A) (w : List Int) (hl : w.length ≤ 1000000) : XM0 32 [dV n N A, slI w] = some (.bool (runD n N A w)) := by
  rw [← dV_of h.a]
  exact tRel_eq (R := RRn) RRn_fn ⟨_, _, _, _, h, hl, rfl, rfl⟩
theorem XM0_word (ns : List Int) (most few : Int) (h : 0 ≤ most ∧ most ≤ 1000) : XM0 29 [slI ns, .int .i64 most, .int .i64 few] = some (slI (wordOf ns most few)) := tRel_eq (R := RWord) RWord_fn ⟨_, _, _, h, rfl, rfl⟩
theorem XM0_within (a n : Int) (h1 : 0 < n) (h2 : n ≤ 1000000) : XM0 30 [.int .i64 a, .int .i64 n] = some (.int .i64 (a % n)) := rw_eq h1 h2
end Go.Proofs.YtpmjpogcaglphaaDoor.A
namespace Go.Proofs.YtpmjpogcaglphaaDoor.A
open Go
set_option maxRecDepth 20000
def nzMA : Nat → Option (List (Nat × Nat))
  | 5 => some [(0, 2)]
  | _ => none
theorem lookMAll : lookedAt (EX md0 XM0) nzMA 3 Tryd.f3 = true := by kernel_rfl
theorem mall_ok (size : Int) (ns : List Int) (acc : Int) : Ok Tryd.prog 3 [.int .i64 size, slI ns, .int .i64 acc] (.bool true) := by
  refine ok_of_WP (E := EX md0 XM0) (cr := noR) XM0_ok (noR_ok _) mixed (k := 0) Tryd.func3 lookMAll rfl ?_
  have hw := wf7 size ns acc
  have hkn := XM0_known
  have hmk := XM0_make size ns acc
  generalize hn : size7 size = n at *
  have eN : N7 size ns acc = next7 n ns acc n := by rw [N7, hn]
  have eA : A7 size acc = accs7 acc n := by rw [A7, hn]
  rw [eN, eA] at hmk
  generalize next7 n ns acc n = N at *
  generalize accs7 acc n = A at *
  have hm := min_wf hw
  have h1 := XM0_min hw
  have h2 := XM0_rmin hw
  have h3 := XM0_st hw
  have h4 := XM0_rst hw
  generalize minN N A = M at *
  generalize minA N A = B at *
  have hs := hm.a
  generalize B.length = k at *
  have h5 := XM0_rsame hm hm
  rw [decide_eq_true ⟨rfl, rfl⟩] at h5
  have h6 := XM0_st hm
  have h7 := XM0_rst hm
  have h8 := XM0_chk hm
  have b1 : (steadyM n N == steadyM n N) = true := beq_self_eq_true _
  have b2 : (steadyM k M == steadyM k M) = true := beq_self_eq_true _
  generalize steadyM n N = z1 at *
  generalize steadyM k M = z2 at *
  simp only [Tryd.f3, Option.getD_some]
  simp (disch := omega) only [go_sem, ↓IntWalk.iteOmega, IntWalk.toNatUp, Nat.reduceEqDiff, Nat.reduceAdd, Nat.reduceMul, Nat.reduceSub, Nat.reduceLT, Nat.reduceLeDiff, Int.reduceToNat, Int.reduceLT, Int.reduceLE, Int.reduceEq, Int.reduceAdd, Int.reduceSub, Int.reduceMul, Int.toNat_natCast, reduceCtorEq, decide_true, decide_false, IntWalk.i64_in, IntWalk.u64_in, IntWalk.u8_in, nzMA, hkn, hmk, h1, h2, h3, h4, h5, h6, h7, h8, b1, b2]
end Go.Proofs.YtpmjpogcaglphaaDoor.A

namespace Go.Proofs.YtpmjpogcaglphaaDoor
open Go Go.Proofs.YtpmjpogcaglphaaDoor.A
set_option maxRecDepth 100000 in
theorem miniAll_lifted (os : Os) (started : os.Started) (H : Type) (enc : TypeId × Value → H) :
    ReturnsInHanded {} Tryd.checked os 3 .any (fun w args => (Rows.miniAllSpec.pre enc Tryd.prog Tryd.f3 [] false w args ∧ laidMetH Tryd.prog laidL w) ∧ sizedMet enc Tryd.prog Tryd.f3 (OpenSpec.ofChange Rows.miniAllSpec) false w args) (Rows.miniAllSpec.post enc Tryd.prog Tryd.f3 false true false false) :=
  law_laid (C := Tryd.checked) (L := laidL) laidL_noh Tryd.own started (by kernel_rfl) Tryd.func3
    (ChangeSpec.witness_at (enc := enc) (C := Tryd.checked) (os := os) (X := fun w _ => laidMetH Tryd.prog laidL w) false (laidWorld os) #[.int .i64 0, .slice none 0 0, .int .i64 0] 8 rfl (by kernel_rfl) (by kernel_rfl) (by kernel_rfl) (by kernel_rfl) (by kernel_rfl) (laidWorld_met os _))
    Tryd.laidOut (ks := [3, 22]) (by kernel_rfl) (by kernel_rfl) (tb := 4) (by kernel_rfl) (by kernel_rfl) rfl
    (fun ds hds => by
      match ds, hds with
      | [_, _, _], _ => exact ⟨rfl, rfl, rfl⟩)
    laid_gl (fun xs hxs => by
      rw [show Tryd.f3.params.toList = [3, 22, 3] from rfl] at hxs
      match xs, hxs with
      | [x1, x2, x3], ⟨h1, h2, h3, _⟩ =>
        obtain ⟨n1, rfl, _⟩ := arg_int (k := .i64) (by kernel_rfl) h1
        obtain ⟨n2, rfl, _⟩ := arg_ints (e := 3) (by kernel_rfl) (by kernel_rfl) h2
        obtain ⟨n3, rfl, _⟩ := arg_int (k := .i64) (by kernel_rfl) h3
        exact mall_ok n1 n2 n3)
theorem miniAll_row_holds : Rows.MiniAllSaid :=
  OpenClaim.holds_of_wide 3 Tryd.f3 rfl rfl rfl rfl rfl rfl rfl ⟨rfl, rfl, rfl, rfl, rfl⟩ rfl rfl rfl rfl rfl (by kernel_rfl) Tryd.func3 (by kernel_rfl)
    (of_decide_eq_true (by kernel_rfl)) (by unfold Func.isWrapper; first | (rw [if_pos (by decide +kernel)]; kernel_rfl) | (rw [if_neg (by decide +kernel)]; exact ⟨rfl, rfl⟩))
    (fun os started H enc _ => miniAll_lifted os started H enc)
theorem miniAll_card_holds : Rows.MiniAllCardSaid :=
  Claim7.holds_tied_plain_at .later [] [.data, .data, .data] true (true, "102ca1f5da5c52998f5edfe949f841430b613cce0079492f5bc01c543bb3a885") false
    miniAll_row_holds (fun _ h => by cases h) (by kernel_rfl) (fun _ h => by cases h) miniAll_row_tie rfl ⟨rfl, rfl⟩ (by kernel_rfl) rfl
    (fun f fn hf hfn => by
      obtain rfl : f = 3 := (Option.some.inj ((show Tryd.prog.funcNamed "milestone/milestonelaw8.MiniAll" = some 3 by kernel_rfl).symm.trans hf)).symm
      obtain rfl : fn = Tryd.f3 := (Option.some.inj (Tryd.func3.symm.trans hfn)).symm
      refine ⟨by kernel_rfl, fun j t ht => ?_⟩
      exact (wants_all (by kernel_rfl : (Tryd.f3.params.toList.all fun t => !Tryd.prog.wantsStandIn t) = true) ht))
    (by kernel_rfl)
end Go.Proofs.YtpmjpogcaglphaaDoor
