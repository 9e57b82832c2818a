/- A, part 35: footprints of guarded operations. -/
import Derived.Test.YtpmjpogcaglphaaGreatDoorMLMCompiles4
set_option linter.unusedVariables false
set_option linter.unusedSimpArgs false
set_option linter.unnecessarySimpa false
namespace Go.Proofs.YtpmjpogcaglphaaGreatDoor.A
open Go
def fG (y : Option (Option Bool)) (want : Bool) (fp : FP) : FP := match y with
 | some (some b)=>if b = want then fp else FP.none_
 | _=>FP.none_
@[go_sem] theorem dr8 (E : Env) (st : Nat) (ops : Array Oper) (d op ty p af j want a H) : E3 E st ops ⟨d, op, ty, p, af, some (j, want)⟩ a H = fG (I6 ops a j) want (E3 E st ops ⟨d, op, ty, p, af, none⟩ a H) := by
 unfold fG
 cases hy : I6 ops a j with
 | none=>unfold E3 E1;simp only[hy,Option.map_none];rfl
 | some y =>
  cases y with
  | none=>unfold E3 E1;simp only[hy,Option.map_some];rfl
  | some b =>
   unfold E3 E1
   simp only[hy,Option.map_some]
   cases b <;> cases want <;> rfl
@[go_sem] theorem dE6 (w fp) : fG (some none) w fp = FP.none_ := rfl
@[go_sem] theorem ec8 (fp) : fG (some (some true)) true fp = fp := rfl
@[go_sem] theorem ec9 (fp) : fG (some (some false)) true fp = FP.none_ := rfl
@[go_sem] theorem ed0 (fp) : fG (some (some true)) false fp = FP.none_ := rfl
@[go_sem] theorem ed1 (fp) : fG (some (some false)) false fp = fp := rfl
@[go_sem] theorem di3 (p : Prop) [Decidable p] (w fp) : fG (some (some (decide p))) w fp = fG (some (some (if p then true else false))) w fp := by
 by_cases h : p <;> simp[h]
end Go.Proofs.YtpmjpogcaglphaaGreatDoor.A
