/- A, part 35: footprints of guarded operations. -/
import Derived.Test.YtpmjpogcaglphaaDoorMLMOther4
set_option linter.unusedVariables false
set_option linter.unusedSimpArgs false
set_option linter.unnecessarySimpa false
namespace Go.Proofs.YtpmjpogcaglphaaDoor.A
open Go
def fG (y : Option (Option Bool)) (want : Bool) (fp : FP) : FP := match y with
 | some (some b) => if b = want then fp else FP.none_
 | _ => FP.none_
@[go_sem] theorem cJ7 (E : Env) (st : Nat) (ops : Array Oper) (d op ty p af j want a H) : y7 E st ops ⟨d, op, ty, p, af, some (j, want)⟩ a H = fG (C6 ops a j) want (y7 E st ops ⟨d, op, ty, p, af, none⟩ a H) := by
 unfold fG
 cases hy : C6 ops a j with
 | none => unfold y7 y5; simp only [hy, Option.map_none]; rfl
 | some y =>
  cases y with
  | none => unfold y7 y5; simp only [hy, Option.map_some]; rfl
  | some b =>
   unfold y7 y5
   simp only [hy, Option.map_some]
   cases b <;> cases want <;> rfl
@[go_sem] theorem cW7 (w fp) : fG (some none) w fp = FP.none_ := rfl
@[go_sem] theorem dt5 (fp) : fG (some (some true)) true fp = fp := rfl
@[go_sem] theorem dt6 (fp) : fG (some (some false)) true fp = FP.none_ := rfl
@[go_sem] theorem dt7 (fp) : fG (some (some true)) false fp = FP.none_ := rfl
@[go_sem] theorem dt8 (fp) : fG (some (some false)) false fp = fp := rfl
@[go_sem] theorem cB6 (p : Prop) [Decidable p] (w fp) : fG (some (some (decide p))) w fp = fG (some (some (if p then true else false))) w fp := by
 by_cases h : p <;> simp [h]
end Go.Proofs.YtpmjpogcaglphaaDoor.A
