/- Machines of one way, of numbers: the contract of law7.Make; words of it. -/
import Derived.Test.YtpmjpogcaglphaaDoorMLMOne15
import Derived.Test.YtpmjpogcaglphaaDoorMLMOne25
set_option linter.unusedVariables false
set_option linter.unusedSimpArgs false
set_option linter.unnecessarySimpa false
namespace Go.Proofs.YtpmjpogcaglphaaDoor.A
open Go
set_option maxRecDepth 20000
abbrev N7 (size : Int) (ns : List Int) (acc : Int) : List Int := db6 (bP1 size) ns acc (bP1 size)
abbrev A7 (size : Int) (acc : Int) : List Bool := db7 acc (bP1 size)
abbrev cI5 (size : Int) (ns : List Int) (acc : Int) : AV := Z4 (bP1 size) (N7 size ns acc) (A7 size acc)
theorem bD5 (ns : List Int) (most : Int) : ∀ x ∈ E6 ns most 4, 0 ≤ x ∧ x < 5 := by
 intro x hx
 obtain ⟨y, _, rfl⟩ := List.mem_map.1 hx
 have h1 := Int.emod_nonneg y (show (1 + 4 % 5 : Int) ≠ 0 by decide)
 have h2 := Int.emod_lt_of_pos y (show (0 : Int) < 1 + 4 % 5 by decide)
 exact ⟨h1, by omega⟩
def dB7 (args : List AV) (r : AV) : Prop := ∃ (size : Int) (ns : List Int) (acc : Int), args = [.int .i64 size, slI ns, .int .i64 acc] ∧ r = cI5 size ns acc
end Go.Proofs.YtpmjpogcaglphaaDoor.A
