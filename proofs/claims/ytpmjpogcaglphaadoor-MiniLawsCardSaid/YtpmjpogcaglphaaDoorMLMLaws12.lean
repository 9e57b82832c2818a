/- stringslite.IndexByte: where a byte is first met. -/
import Derived.Shelf.Strings.Search1
import Derived.Test.YtpmjpogcaglphaaDoorMLMLaws5
set_option linter.unusedVariables false
set_option linter.unusedSimpArgs false
set_option linter.unnecessarySimpa false
namespace Go.Proofs.YtpmjpogcaglphaaDoor.A
open Go
noncomputable def do4 : Shelf.Ren := ⟨fun x => if x = 217 then 98 else if x = 266 then 100 else 0, fun x => x, fun x => x⟩
theorem cP7 : Lays.n217 Tryd.prog do4 where
 mixed := mixed
 f217 := by kernel_rfl
 f266 := by kernel_rfl
 t3 := by kernel_rfl
 a3 := run_isAgg_plain (show Tryd.prog.underlying 3 = some (.int .i64) by kernel_rfl) rfl
 z3 := fun w => by kernel_rfl
 v3 := fun w => by kernel_rfl
 t5 := by kernel_rfl
 a5 := run_isAgg_plain (show Tryd.prog.underlying 5 = some (.int .u8) by kernel_rfl) rfl
 z5 := fun w => by kernel_rfl
 v5 := fun w => by kernel_rfl
 t9 := by kernel_rfl
 a9 := run_isAgg_plain (show Tryd.prog.underlying 9 = some .string by kernel_rfl) rfl
 z9 := fun w => by kernel_rfl
 v9 := fun w => by kernel_rfl
def RIx (args : List AV) (r : AV) : Prop := ∃ (s : List UInt8) (c : Int), args = [.str s, .int .u8 c] ∧ r = .int .i64 (Lib.indexByte s c.toNat.toUInt8)
theorem bL6 (args r) (h : RIx args r) : Ok Tryd.prog 98 args r := by
 obtain ⟨s, c, rfl, rfl⟩ := h
 refine ⟨⟨Tryd.f98, Tryd.func98, by kernel_rfl, by kernel_rfl⟩, fun S w cargs ha hS _ => ?_⟩
 obtain ⟨hl, hr⟩ := ha
 match cargs, hl with
 | [u, v], _ =>
  have h0 := hr 0 _ _ rfl rfl
  have h1 := hr 1 _ _ rfl rfl
  cases h0
  cases h1
  refine (Any.stringslite_IndexByte cP7 ⟨s.toArray⟩ c w).mono ?_
  rintro e w' ⟨rfl, rfl⟩
  exact ⟨_, S, rfl, RowKit.Below.refl _ _, .int _ _, fun _ h => h, fun b hb => ⟨.inl hb, hS b hb⟩⟩
end Go.Proofs.YtpmjpogcaglphaaDoor.A
