/- A, part 26: walking ahead over what nothing hangs on. -/
import Derived.Test.YtcaemgpificohaaA25
set_option linter.unusedVariables false
set_option linter.unusedSimpArgs false
set_option linter.unnecessarySimpa false
namespace Go.Proofs.Ytcaemgpificohaa.A
open Go

def sl : Code → Code
  | .seq a _ => a
  | c => c
def sr : Code → Code
  | .seq _ b => b
  | c => c
def isSeq : Code → Bool
  | .seq _ _ => true
  | _ => false
def afterR (r : Res) : AAct × AH :=
  match r with
  | some (_, a, H) => (a, H)
  | none => (fun _ => .und, noHeap)
def isNormal (r : Res) : Bool :=
  match r with
  | some (.normal, _, _) => true
  | _ => false
theorem normal_eq {r : Res} (h : isNormal r = true) : r = some (.normal, (afterR r).1, (afterR r).2) := by
  unfold isNormal at h
  split at h
  · rfl
  · cases h
theorem seqR_normal {r : Res} {f : AAct → AH → Res} (h : isNormal r = true) : seqR r f = f (afterR r).1 (afterR r).2 := by
  unfold isNormal at h
  split at h
  · rfl
  · cases h
section
variable (E : Env) (cp : CallP) (cr : CallR) (k : Nat) (nz : Nat → Option (List (Nat × Nat)))
/-- After n of a row of statements. -/
def ahead : Nat → Code → AAct × AH → AAct × AH
  | 0, _, s => s
  | n + 1, c, s => ahead n (sr c) (afterR (evalP E cp cr k nz none (sl c) s.1 s.2))
def aheadOk : Nat → Code → AAct × AH → Bool
  | 0, _, _ => true
  | n + 1, c, s => isSeq c && isNormal (evalP E cp cr k nz none (sl c) s.1 s.2) && aheadOk n (sr c) (afterR (evalP E cp cr k nz none (sl c) s.1 s.2))
def srN : Nat → Code → Code
  | 0, c => c
  | n + 1, c => srN n (sr c)
theorem srN_succ : ∀ (n : Nat) (c : Code), srN (n + 1) c = sr (srN n c)
  | 0, c => rfl
  | n + 1, c => srN_succ n (sr c)
theorem seq_split {c : Code} (h : isSeq c = true) (a : AAct) (H : AH) : evalP E cp cr k nz none c a H = seqR (evalP E cp cr k nz none (sl c) a H) (evalP E cp cr k nz none (sr c)) := by
  cases c with
  | seq x y => rfl
  | _ => cases h
theorem ahead_eq : ∀ (n : Nat) (c : Code) (s : AAct × AH), aheadOk E cp cr k nz n c s = true → evalP E cp cr k nz none c s.1 s.2 = evalP E cp cr k nz none (srN n c) (ahead E cp cr k nz n c s).1 (ahead E cp cr k nz n c s).2
  | 0, c, s, _ => rfl
  | n + 1, c, s, h => by
    simp only [aheadOk, Bool.and_eq_true] at h
    obtain ⟨⟨h1, h2⟩, h3⟩ := h
    cases c with
    | seq x y =>
      simp only [sl, sr] at h2 h3
      have := ahead_eq n y _ h3
      simp only [evalP, seqR, ahead, srN, sl, sr]
      rw [normal_eq h2]
      exact this
    | _ => cases h1
end

end Go.Proofs.Ytcaemgpificohaa.A
