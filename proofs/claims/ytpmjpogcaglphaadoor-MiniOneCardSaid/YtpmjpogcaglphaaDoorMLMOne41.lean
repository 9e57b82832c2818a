/- Few, One: relations of their contracts. -/
import Derived.Test.YtpmjpogcaglphaaDoorMLMOne9
import Derived.Test.YtpmjpogcaglphaaDoorMLMOne40
set_option linter.unusedVariables false
set_option linter.unusedSimpArgs false
set_option linter.unnecessarySimpa false
namespace Go.Proofs.YtpmjpogcaglphaaDoor.A
open Go
set_option maxRecDepth 20000
def cG5 (args : List AV) (r : AV) : Prop := ∃ l, args = [slR l] ∧ r = .bool (bk5 l)
theorem bC9 : K5 cG5 := by
 rintro args r r' ⟨x, rfl, rfl⟩ ⟨x', h, rfl⟩
 simp only [List.cons.injEq, AV.sl.injEq, and_true] at h
 rw [ad5 h.2]
theorem ck2 (args r) (h : cG5 args r) : Ok Tryd.prog 22 args r := by obtain ⟨x, rfl, rfl⟩ := h; exact cd4 x
def cG6 (args : List AV) (r : AV) : Prop := ∃ l, args = [slR l] ∧ r = f6 (aa7 l)
theorem bD0 : K5 cG6 := by
 rintro args r r' ⟨x, rfl, rfl⟩ ⟨x', h, rfl⟩
 simp only [List.cons.injEq, AV.sl.injEq, and_true] at h
 rw [ad5 h.2]
theorem ck3 (args r) (h : cG6 args r) : Ok Tryd.prog 23 args r := by obtain ⟨x, rfl, rfl⟩ := h; exact cz3 x
end Go.Proofs.YtpmjpogcaglphaaDoor.A
