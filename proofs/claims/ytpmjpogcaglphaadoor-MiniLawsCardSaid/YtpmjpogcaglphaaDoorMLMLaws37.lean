/- A, part 35: footprints of guarded operations. -/
import Derived.Test.YtpmjpogcaglphaaDoorMLMLaws4
set_option linter.unusedVariables false
set_option linter.unusedSimpArgs false
set_option linter.unnecessarySimpa false
namespace Go.Proofs.YtpmjpogcaglphaaDoor.A
open Go
def fG (y : Option (Option Bool)) (want : Bool) (fp : FP) : FP := match y with
 | some (some b) => if b = want then fp else FP.none_
 | _ => FP.none_
@[go_sem] theorem cF6 (E : Env) (st : Nat) (ops : Array Oper) (d op ty p af j want a H) : z8 E st ops ⟨d, op, ty, p, af, some (j, want)⟩ a H = fG (C6 ops a j) want (z8 E st ops ⟨d, op, ty, p, af, none⟩ a H) := by
 unfold fG
 cases hy : C6 ops a j with
 | none => unfold z8 y9; simp only [hy, Option.map_none]; rfl
 | some y =>
  cases y with
  | none => unfold z8 y9; simp only [hy, Option.map_some]; rfl
  | some b =>
   unfold z8 y9
   simp only [hy, Option.map_some]
   cases b <;> cases want <;> rfl
@[go_sem] theorem cS1 (w fp) : fG (some none) w fp = FP.none_ := rfl
@[go_sem] theorem do9 (fp) : fG (some (some true)) true fp = fp := rfl
@[go_sem] theorem dp0 (fp) : fG (some (some false)) true fp = FP.none_ := rfl
@[go_sem] theorem dp1 (fp) : fG (some (some true)) false fp = FP.none_ := rfl
@[go_sem] theorem dp2 (fp) : fG (some (some false)) false fp = fp := rfl
@[go_sem] theorem cv3 (p : Prop) [Decidable p] (w fp) : fG (some (some (decide p))) w fp = fG (some (some (if p then true else false))) w fp := by
 by_cases h : p <;> simp [h]
end Go.Proofs.YtpmjpogcaglphaaDoor.A
