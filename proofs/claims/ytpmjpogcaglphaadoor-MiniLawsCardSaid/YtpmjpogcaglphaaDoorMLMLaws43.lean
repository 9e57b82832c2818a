/- Few, One: relations of their contracts. -/
import Derived.Test.YtpmjpogcaglphaaDoorMLMLaws42
import Derived.Test.YtpmjpogcaglphaaDoorMLMLaws9
set_option linter.unusedVariables false
set_option linter.unusedSimpArgs false
set_option linter.unnecessarySimpa false
namespace Go.Proofs.YtpmjpogcaglphaaDoor.A
open Go
set_option maxRecDepth 20000
def cv8 (args : List AV) (r : AV) : Prop := ∃ l, args = [slR l] ∧ r = .bool (bg2 l)
theorem bw1 : Q5 cv8 := by
 rintro args r r' ⟨x, rfl, rfl⟩ ⟨x', h, rfl⟩
 simp only [List.cons.injEq, AV.sl.injEq, and_true] at h
 rw [ab4 h.2]
theorem bZ8 (args r) (h : cv8 args r) : Ok Tryd.prog 22 args r := by obtain ⟨x, rfl, rfl⟩ := h; exact bT3 x
def cv9 (args : List AV) (r : AV) : Prop := ∃ l, args = [slR l] ∧ r = j5 (W4 l)
theorem bw2 : Q5 cv9 := by
 rintro args r r' ⟨x, rfl, rfl⟩ ⟨x', h, rfl⟩
 simp only [List.cons.injEq, AV.sl.injEq, and_true] at h
 rw [ab4 h.2]
theorem bZ9 (args r) (h : cv9 args r) : Ok Tryd.prog 23 args r := by obtain ⟨x, rfl, rfl⟩ := h; exact co1 x
end Go.Proofs.YtpmjpogcaglphaaDoor.A
