/- NfaKnown answers true for every number that it may be called with; the input reads as it did. -/
import Derived.Test.YtcaemgpificohaaRows
import Derived.Test.YtcaemgpificohaaNBase
namespace Go.Proofs.Ytcaemgpificohaa.A
open Go

def modeK (f : FuncId) : Mode := if f ∈ [12, 25] then .ext true else .raw true
def tabK : Tab := [(25, t25), (12, t12)]
theorem tabK_ok : CPSound Try.prog (tabLook tabK) := tab_cons (tab_cons (tab_nil _) t12_ok) t25_ok
noncomputable def EK : Env := { P := Try.prog, mode := modeK, ext := tabLook tabK }
/-- As before, but each such call answers y. -/
noncomputable def EKy (y : AV) : Env := { P := Try.prog, mode := modeK, ext := fun _ _ => some y }
noncomputable def bK : Code := Try.f9.body.getD .skip
def sK (x : Int) : AAct × AH := (begin_ [.int .i64 x], noHeap)
theorem lookK : lookedAt EK nz0 1 Try.f9 = true := by kernel_rfl
theorem preK (x : Int) : aheadOk EK noP cr0 60 nz0 6 bK (sK x) = true := by kernel_rfl
noncomputable def sK6 (x : Int) : AAct × AH := ahead EK noP cr0 60 nz0 6 bK (sK x)
theorem midK (x : Int) : evalP EK noP cr0 60 nz0 none (sl (srN 6 bK)) (sK6 x).1 (sK6 x).2 = evalP (EKy (.int .i64 (x % 13))) noP cr0 60 nz0 none (sl (srN 6 bK)) (sK6 x).1 (sK6 x).2 := by kernel_rfl
noncomputable def rK7 (x m : Int) : Res := evalP (EKy (.int .i64 m)) noP cr0 60 nz0 none (sl (srN 6 bK)) (sK6 x).1 (sK6 x).2
theorem normK (x m : Int) : isNormal (rK7 x m) = true := by kernel_rfl
noncomputable def endK (r : Res) : Option AV :=
  match r with
  | some (.normal, a, H') => (resultsL EK.P a H' Try.f9.results.toList).map tup1
  | some (.ret, a, H') => (resultsL EK.P a H' Try.f9.results.toList).map tup1
  | _ => none
theorem eachK0 (x : Int) : endK (evalP EK noP cr0 60 nz0 none (srN 7 bK) (afterR (rK7 x 0)).1 (afterR (rK7 x 0)).2) = some (.bool true) := by kernel_rfl
theorem eachK1 (x : Int) : endK (evalP EK noP cr0 60 nz0 none (srN 7 bK) (afterR (rK7 x 1)).1 (afterR (rK7 x 1)).2) = some (.bool true) := by kernel_rfl
theorem eachK2 (x : Int) : endK (evalP EK noP cr0 60 nz0 none (srN 7 bK) (afterR (rK7 x 2)).1 (afterR (rK7 x 2)).2) = some (.bool true) := by kernel_rfl
theorem eachK3 (x : Int) : endK (evalP EK noP cr0 60 nz0 none (srN 7 bK) (afterR (rK7 x 3)).1 (afterR (rK7 x 3)).2) = some (.bool true) := by kernel_rfl
theorem eachK4 (x : Int) : endK (evalP EK noP cr0 60 nz0 none (srN 7 bK) (afterR (rK7 x 4)).1 (afterR (rK7 x 4)).2) = some (.bool true) := by kernel_rfl
theorem eachK5 (x : Int) : endK (evalP EK noP cr0 60 nz0 none (srN 7 bK) (afterR (rK7 x 5)).1 (afterR (rK7 x 5)).2) = some (.bool true) := by kernel_rfl
theorem eachK6 (x : Int) : endK (evalP EK noP cr0 60 nz0 none (srN 7 bK) (afterR (rK7 x 6)).1 (afterR (rK7 x 6)).2) = some (.bool true) := by kernel_rfl
theorem eachK7 (x : Int) : endK (evalP EK noP cr0 60 nz0 none (srN 7 bK) (afterR (rK7 x 7)).1 (afterR (rK7 x 7)).2) = some (.bool true) := by kernel_rfl
theorem eachK8 (x : Int) : endK (evalP EK noP cr0 60 nz0 none (srN 7 bK) (afterR (rK7 x 8)).1 (afterR (rK7 x 8)).2) = some (.bool true) := by kernel_rfl
theorem eachK9 (x : Int) : endK (evalP EK noP cr0 60 nz0 none (srN 7 bK) (afterR (rK7 x 9)).1 (afterR (rK7 x 9)).2) = some (.bool true) := by kernel_rfl
theorem eachK10 (x : Int) : endK (evalP EK noP cr0 60 nz0 none (srN 7 bK) (afterR (rK7 x 10)).1 (afterR (rK7 x 10)).2) = some (.bool true) := by kernel_rfl
theorem eachK11 (x : Int) : endK (evalP EK noP cr0 60 nz0 none (srN 7 bK) (afterR (rK7 x 11)).1 (afterR (rK7 x 11)).2) = some (.bool true) := by kernel_rfl
theorem eachK12 (x : Int) : endK (evalP EK noP cr0 60 nz0 none (srN 7 bK) (afterR (rK7 x 12)).1 (afterR (rK7 x 12)).2) = some (.bool true) := by kernel_rfl
theorem runK (x : Int) : ∃ H', runP EK cr0 60 nz0 Try.f9 [.int .i64 x] noHeap = some (.bool true, H') := by
  have hb : Try.f9.body = some bK := by kernel_rfl
  have hseq : isSeq (srN 6 bK) = true := by kernel_rfl
  have h1 : evalP EK noP cr0 60 nz0 none bK (begin_ [.int .i64 x]) noHeap = evalP EK noP cr0 60 nz0 none (srN 7 bK) (afterR (rK7 x (x % 13))).1 (afterR (rK7 x (x % 13))).2 := by
    refine (ahead_eq EK noP cr0 60 nz0 6 bK (sK x) (preK x)).trans ?_
    refine (seq_split EK noP cr0 60 nz0 hseq _ _).trans ?_
    rw [srN_succ 6 bK]
    exact (congrArg (fun r => seqR r (evalP EK noP cr0 60 nz0 none (sr (srN 6 bK)))) (midK x)).trans (seqR_normal (normK x (x % 13)))
  have h2 : endK (evalP EK noP cr0 60 nz0 none bK (begin_ [.int .i64 x]) noHeap) = some (.bool true) := by
    rw [h1]
    have hm0 : 0 ≤ x % 13 := Int.emod_nonneg x (by decide)
    have hm1 : x % 13 < 13 := Int.emod_lt_of_pos x (by decide)
    generalize x % 13 = m at hm0 hm1 ⊢
    obtain ⟨j, rfl⟩ := Int.eq_ofNat_of_zero_le hm0
    have hj : j < 13 := by omega
    match j, hj with
    | 0, _ => exact eachK0 x
    | 1, _ => exact eachK1 x
    | 2, _ => exact eachK2 x
    | 3, _ => exact eachK3 x
    | 4, _ => exact eachK4 x
    | 5, _ => exact eachK5 x
    | 6, _ => exact eachK6 x
    | 7, _ => exact eachK7 x
    | 8, _ => exact eachK8 x
    | 9, _ => exact eachK9 x
    | 10, _ => exact eachK10 x
    | 11, _ => exact eachK11 x
    | 12, _ => exact eachK12 x
  unfold runP
  rw [hb]
  dsimp only
  generalize evalP EK noP cr0 60 nz0 none bK (begin_ [.int .i64 x]) noHeap = r at h2 ⊢
  unfold endK at h2
  split at h2
  · rename_i a H'
    dsimp only
    cases hr : resultsL EK.P a H' Try.f9.results.toList with
    | none => rw [hr] at h2; cases h2
    | some vs =>
      rw [hr] at h2
      simp only [Option.map_some] at h2 ⊢
      injection h2 with h2
      exact ⟨H', by rw [h2]⟩
  · rename_i a H'
    dsimp only
    cases hr : resultsL EK.P a H' Try.f9.results.toList with
    | none => rw [hr] at h2; cases h2
    | some vs =>
      rw [hr] at h2
      simp only [Option.map_some] at h2 ⊢
      injection h2 with h2
      exact ⟨H', by rw [h2]⟩
  · cases h2

def tLaw : List AV → Option AV
  | [.int .i64 _] => some (.bool true)
  | _ => none
theorem tLaw_ok (args : List AV) (r : AV) (h : tLaw args = some r) : Ok Try.prog 9 args r := by
  unfold tLaw at h
  split at h
  · rename_i x
    injection h with h; subst h
    obtain ⟨H', hr⟩ := runK x
    exact ok_run (E := EK) (args := [.int .i64 x]) tabK_ok cr0_sound cr0_up mixed Try.func9 lookK hr
  · cases h
end Go.Proofs.Ytcaemgpificohaa.A

namespace Go.Proofs.Ytcaemgpificohaa
open Go Go.Proofs.Ytcaemgpificohaa.A

theorem Try.own : ownKnob Try.prog.godebug = none := by kernel_rfl
theorem Try.laidOut : laidOutB Try.prog = true := by kernel_rfl

set_option maxRecDepth 100000 in
theorem nfaKnown_lifted (os : Os) (started : os.Started) (H : Type) (enc : TypeId × Value → H) :
    ReturnsInHanded {} Try.checked os 9 .any (Rows.nfaKnownSpec.pre6 enc Try.prog Try.f9 Rows.nfaKnownRow.domain false) (Rows.nfaKnownSpec.post enc Try.prog Try.f9 false true false false) :=
  law_lifted (C := Try.checked) Try.own started (by kernel_rfl) Try.func9
    (ChangeSpec.witness6 (enc := enc) (C := Try.checked) false ⟨#[], #[.int .i64 0], []⟩ 8 (by kernel_rfl) (by kernel_rfl) (by kernel_rfl) (by kernel_rfl))
    Try.laidOut (ks := [3]) (by kernel_rfl) (by kernel_rfl) (tb := 4) (by kernel_rfl) (by kernel_rfl) rfl
    (fun ds hds => by
      match ds, hds with
      | [_], _ => exact ⟨rfl, rfl, rfl⟩)
    (fun xs hxs => by
      rw [show Try.f9.params.toList = [3] from rfl] at hxs
      match xs, hxs with
      | [x], hxs =>
        obtain ⟨n, rfl, _⟩ := arg_int (k := .i64) (by kernel_rfl) hxs.1
        exact tLaw_ok _ _ rfl)

theorem nfaKnown_holds : Rows.NfaKnownSaid :=
  OpenClaim.holds_of_wide 9 Try.f9 rfl rfl rfl rfl rfl rfl rfl ⟨rfl, rfl, rfl, rfl, rfl⟩ rfl rfl rfl rfl rfl (by kernel_rfl) Try.func9 (by kernel_rfl)
    (of_decide_eq_true (by kernel_rfl)) (by unfold Func.isWrapper; first | (rw [if_pos (by decide +kernel)]; kernel_rfl) | (rw [if_neg (by decide +kernel)]; exact ⟨rfl, rfl⟩))
    (fun os started H enc _ => nfaKnown_lifted os started H enc)

end Go.Proofs.Ytcaemgpificohaa
