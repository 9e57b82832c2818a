/- A world whose listed variables are laid; what a tied card asks. -/
import Derived.Test.YtpmjpogcaglphaaDoorTie
import Derived.Test.YtpmjpogcaglphaaDoorCards
import Derived.Test.YtpmjpogcaglphaaDoorMLMLaws13
import Derived.Test.YtpmjpogcaglphaaDoorMLMLaws14
set_option linter.unusedVariables false
set_option linter.unusedSimpArgs false
set_option linter.unnecessarySimpa false
namespace Go.Proofs.YtpmjpogcaglphaaDoor
open Go Go.Proofs.YtpmjpogcaglphaaDoor.A
set_option maxRecDepth 100000
abbrev laidL : List (String × DataW Unit) := [("math/bits.deBruijn32tab", Rows.laid_math_bits_deBruijn32tab), ("math/bits.deBruijn64tab", Rows.laid_math_bits_deBruijn64tab), ("internal/strconv.uint64pow10", Rows.laid_internal_strconv_uint64pow10)]
theorem laidL_noh : (laidL.filter fun x => x.2.handleName?.isSome) = [] := by kernel_rfl
noncomputable def laidWorld (os : Os) : World :=
 cP8 (cP8 (cP8 (World.holding Tryd.prog os ⟨#[], #[], []⟩) ((Tryd.prog.globalNamed "internal/strconv.uint64pow10").getD 0) (ap5 Rows.laid_internal_strconv_uint64pow10)) ((Tryd.prog.globalNamed "math/bits.deBruijn32tab").getD 0) (ap5 Rows.laid_math_bits_deBruijn32tab)) ((Tryd.prog.globalNamed "math/bits.deBruijn64tab").getD 0) (ap5 Rows.laid_math_bits_deBruijn64tab)
theorem laidWorld_met (os : Os) (args : Array Value) : laidMetH Tryd.prog laidL ((laidWorld os).forCall (fun _ _ => 0) ⟨#[], args, []⟩).memory := by
 rw [O1 laidL_noh]
 exact laidMet_of_run' 80 (by kernel_rfl) (by kernel_rfl)
theorem laid_gl (W : World) (h : laidMetH Tryd.prog laidL W) : Gl (Old W) W := by
 rw [O1 laidL_noh] at h
 obtain ⟨ps, hv, _⟩ := h
 obtain ⟨g, t, cs, fuel, p, h1, h2, h3, h4⟩ := ap4 (n := "internal/strconv.uint64pow10") (d := Lib.tabData .u64 Lib.pow10Tab) hv (List.mem_cons_of_mem _ (List.mem_cons_of_mem _ (by rw [show (Lib.tabData .u64 Lib.pow10Tab : DataW Unit) = Rows.laid_internal_strconv_uint64pow10 by kernel_rfl]; exact List.mem_cons_self ..)))
 obtain ⟨ty, m, hh⟩ := bC9 h1 h3
 obtain rfl : 1 = g := Option.some.inj ((show Tryd.prog.globalNamed "internal/strconv.uint64pow10" = some 1 by kernel_rfl).symm.trans h1)
 obtain rfl : 175 = t := Option.some.inj ((show (Tryd.prog.globals[1]?).map (·.type) = some 175 by kernel_rfl).symm.trans h2)
 have hc := Lib.cells_of_tab (e := 169) (n := 20) (by kernel_rfl) (by kernel_rfl) (by kernel_rfl) (by kernel_rfl) h4
 intro x hx
 obtain rfl : x = (1, Lib.pow10Tab.map fun z => Value.int .u64 z) := List.mem_singleton.1 hx
 refine ⟨(Array.getElem?_eq_some_iff.1 hh).1, ty, m, ?_⟩
 rw [hh, ← hc]
theorem wants_all {P : Program} {l : Array TypeId} (h : (l.toList.all fun t => !P.wantsStandIn t) = true) {j : Nat} {t : TypeId} (ht : l[j]? = some t) : P.wantsStandIn t = false := by
 have := List.all_eq_true.1 h t (by
  rw [← Array.getElem?_toList] at ht
  exact List.mem_of_getElem? ht)
 simpa using this
end Go.Proofs.YtpmjpogcaglphaaDoor
