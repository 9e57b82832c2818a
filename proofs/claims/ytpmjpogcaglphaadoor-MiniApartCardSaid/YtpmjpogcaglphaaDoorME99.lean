/- The table of contracts for the laws of least machines that read no text. -/
import Derived.Test.YtpmjpogcaglphaaDoorME91
import Derived.Test.YtpmjpogcaglphaaDoorME92
import Derived.Test.YtpmjpogcaglphaaDoorME93
import Derived.Test.YtpmjpogcaglphaaDoorME94
import Derived.Test.YtpmjpogcaglphaaDoorME95
import Derived.Test.YtpmjpogcaglphaaDoorME96
import Derived.Test.YtpmjpogcaglphaaDoorME97
import Derived.Test.YtpmjpogcaglphaaDoorME98
set_option linter.unusedVariables false
set_option linter.unusedSimpArgs false
set_option linter.unnecessarySimpa false
namespace Go.Proofs.YtpmjpogcaglphaaDoor.A
open Go
set_option maxRecDepth 20000
abbrev dV (n : Nat) (N : List Int) (A : List Bool) : AV := .agg [.sl n (cI N), .sl n (cB A)]
theorem dV_of {n : Nat} {N : List Int} {A : List Bool} (h : A.length = n) : dfaV n N A = dV n N A := by rw [dfaV, slB, h]
theorem chkD_true {n N A} (h : WfD n N A) : chkD n N A = true := by
  have hn := h.sz
  have ha := h.a
  unfold chkD
  rw [decide_eq_true (by omega), Bool.true_and, List.all_eq_true]
  exact fun x hx => decide_eq_true (h.e x hx)
def RChk0 (args : List AV) (r : AV) : Prop := ∃ (n : Nat) (N : List Int) (A : List Bool), WfD n N A ∧ args = [dfaV n N A] ∧ r = .bool true
theorem RChk0_fn : Fun1 RChk0 := by rintro args r r' ⟨_, _, _, _, _, rfl⟩ ⟨_, _, _, _, _, rfl⟩; rfl
theorem RChk0_ok (args r) (h : RChk0 args r) : Ok Tryd.prog 21 args r := by
  obtain ⟨n, N, A, h1, rfl, rfl⟩ := h
  rw [← chkD_true h1]
  exact rchk_ok n N A h1.l
def RRn (args : List AV) (r : AV) : Prop := ∃ (n : Nat) (N : List Int) (A : List Bool) (w : List Int), WfD n N A ∧ w.length ≤ 1000000 ∧ args = [dfaV n N A, slI w] ∧ r = .bool (runD n N A w)
theorem RRn_fn : Fun1 RRn := by
  rintro args r r' ⟨n, N, A, w, _, _, rfl, rfl⟩ ⟨n', N', A', w', _, _, h, rfl⟩
  simp only [List.cons.injEq, and_true] at h
  obtain ⟨h1, h2, h3⟩ := dfaV_inj h.1
  rw [h1, h2, h3, slI_inj h.2]
theorem RRn_ok (args r) (h : RRn args r) : Ok Tryd.prog 32 args r := by obtain ⟨n, N, A, w, h1, h2, rfl, rfl⟩ := h; exact drun1_ok h1 w h2
noncomputable def XM0 : FuncId → List AV → Option AV := tabLook [(14, tRel RKn8), (15, tRel RMk7), (16, tRel RMin), (18, tRel RMin), (17, tRel RSa), (27, tRel RSa), (19, tRel RStM), (20, tRel RStM), (21, tRel RChk0), (31, tRel RGoD), (32, tRel RRn), (29, tRel RWord), (30, tRel RW)]
theorem XM0_ok : CPSound Tryd.prog XM0 := tab_cons (tab_cons (tab_cons (tab_cons (tab_cons (tab_cons (tab_cons (tab_cons (tab_cons (tab_cons (tab_cons (tab_cons (tab_cons (tab_nil _) (tRel_ok within4_ok)) (tRel_ok RWord_ok)) (tRel_ok RRn_ok)) (tRel_ok RGoD_ref)) (tRel_ok RChk0_ok)) (tRel_ok RStM_ref)) (tRel_ok RStM_mini)) (tRel_ok RSa_mini)) (tRel_ok RSa_ref)) (tRel_ok RMin_ref)) (tRel_ok RMin_mini)) (tRel_ok RMk7_ok)) (tRel_ok RKn8_ok)
theorem XM0_known : XM0 14 [] = some (.bool true) := tRel_eq (R := RKn8) RKn8_fn ⟨rfl, rfl⟩
theorem XM0_make (size : Int) (ns : List Int) (acc : Int) : XM0 15 [.int .i64 size, slI ns, .int .i64 acc] = some (dV (size7 size) (N7 size ns acc) (A7 size acc)) := by
  rw [← dV_of (accs7_len acc (size7 size))]
  exact tRel_eq (R := RMk7) RMk7_fn ⟨_, _, _, rfl, rfl⟩
theorem XM0_min {n N A} (h : WfD n N A) : XM0 16 [dV n N A] = some (dV (minA N A).length (minN N A) (minA N A)) := by
  rw [← dV_of h.a, ← dV_of rfl]
  exact tRel_eq (R := RMin) RMin_fn ⟨_, _, _, h, rfl, rfl⟩
theorem XM0_rmin {n N A} (h : WfD n N A) : XM0 18 [dV n N A] = some (dV (minA N A).length (minN N A) (minA N A)) := by
  rw [← dV_of h.a, ← dV_of rfl]
  exact tRel_eq (R := RMin) RMin_fn ⟨_, _, _, h, rfl, rfl⟩
theorem XM0_same {n N A k M B} (h : WfD n N A) (h' : WfD k M B) : XM0 27 [dV n N A, dV k M B] = some (.bool (decide (A = B ∧ N = M))) := by
  rw [← dV_of h.a, ← dV_of h'.a]
  exact tRel_eq (R := RSa) RSa_fn ⟨_, _, _, _, _, _, h.l, h'.l, by have := h.sz; omega, h.a, h'.a, rfl, rfl⟩
theorem XM0_rsame {n N A k M B} (h : WfD n N A) (h' : WfD k M B) : XM0 17 [dV n N A, dV k M B] = some (.bool (decide (A = B ∧ N = M))) := by
  rw [← dV_of h.a, ← dV_of h'.a]
  exact tRel_eq (R := RSa) RSa_fn ⟨_, _, _, _, _, _, h.l, h'.l, by have := h.sz; omega, h.a, h'.a, rfl, rfl⟩
theorem XM0_st {n N A} (h : WfD n N A) : XM0 19 [dV n N A] = some (.bool (steadyM n N)) := by
  rw [← dV_of h.a]
  exact tRel_eq (R := RStM) RStM_fn ⟨_, _, _, h, rfl, rfl⟩
theorem XM0_rst {n N A} (h : WfD n N A) : XM0 20 [dV n N A] = some (.bool (steadyM n N)) := by
  rw [← dV_of h.a]
  exact tRel_eq (R := RStM) RStM_fn ⟨_, _, _, h, rfl, rfl⟩
theorem XM0_chk {n N A} (h : WfD n N A) : XM0 21 [dV n N A] = some (.bool true) := by
  rw [← dV_of h.a]
  exact tRel_eq (R := RChk0) RChk0_fn ⟨_, _, _, h, rfl, rfl⟩
theorem XM0_go {n N A} (h : WfD n N A) (s : Int) (w : List Int) (hl : w.length ≤ 1000000) : XM0 31 [dV n N A, .int .i64 s, slI w] = some (.int .i64 (goFull n N s w)) := by
  rw [← dV_of h.a]
  exact tRel_eq (R := RGoD) RGoD_fn ⟨_, _, _, _, _, h, hl, rfl, rfl⟩
theorem XM0_run {n N A} (h : WfD n N A) (w : List Int) (hl : w.length ≤ 1000000) : XM0 32 [dV n N A, slI w] = some (.bool (runD n N A w)) := by
  rw [← dV_of h.a]
  exact tRel_eq (R := RRn) RRn_fn ⟨_, _, _, _, h, hl, rfl, rfl⟩
theorem XM0_word (ns : List Int) (most few : Int) (h : 0 ≤ most ∧ most ≤ 1000) : XM0 29 [slI ns, .int .i64 most, .int .i64 few] = some (slI (wordOf ns most few)) := tRel_eq (R := RWord) RWord_fn ⟨_, _, _, h, rfl, rfl⟩
theorem XM0_within (a n : Int) (h1 : 0 < n) (h2 : n ≤ 1000000) : XM0 30 [.int .i64 a, .int .i64 n] = some (.int .i64 (a % n)) := rw_eq h1 h2
end Go.Proofs.YtpmjpogcaglphaaDoor.A
