/- What all laws' rows share: arguments that read are data. -/
import Derived.Test.YtpmjpogcaglphaaDoorRows
import Derived.Test.YtpmjpogcaglphaaDoorMLMOne7
set_option linter.unusedVariables false
set_option linter.unusedSimpArgs false
set_option linter.unnecessarySimpa false
namespace Go.Proofs.YtpmjpogcaglphaaDoor.A
open Go
theorem ai0 {P : Program} {d : Nat} {t : TypeId} {xs : List AV} (hu : P.underlying t = some (.int .i64)) (h : Shaped P d t xs) : ∃ n, xs = [.int .i64 n] := by
 cases d with
 | zero => exact h.elim
 | succ d =>
  unfold Shaped at h
  rw [hu] at h
  obtain ⟨n, e, _⟩ := h
  exact ⟨n, e⟩
theorem bs9 {P : Program} {d : Nat} {t : TypeId} (hu : P.underlying t = some (.int .i64)) : ∀ parts : List (List AV), (∀ p ∈ parts, Shaped P d t p) → ∃ ns : List Int, parts.length = ns.length ∧ parts.flatten = cI ns
 | [], _ => ⟨[], rfl, rfl⟩
 | p :: parts, h => by
  obtain ⟨n, rfl⟩ := ai0 hu (h p (List.mem_cons_self ..))
  obtain ⟨ns, h1, h2⟩ := bs9 hu parts (fun q hq => h q (List.mem_cons_of_mem _ hq))
  exact ⟨n :: ns, by simp [h1], by simp [cI, h2]⟩
theorem bK5 {P : Program} {t e : TypeId} {x : AV} (hu : P.underlying t = some (.slice e)) (he : P.underlying e = some (.int .i64)) (h : aP4 P t x) : ∃ ns : List Int, x = slI ns ∧ ns.length ≤ maxLen := by
 unfold aP4 at h
 rw [hu] at h
 obtain ⟨d, h⟩ := h
 cases d with
 | zero => exact h.elim
 | succ d =>
  unfold Shaped at h
  rw [hu] at h
  obtain ⟨parts, e1, hle, h2⟩ := h
  injection e1 with e1 _
  obtain ⟨ns, h3, h4⟩ := bs9 he parts h2
  exact ⟨ns, by rw [e1, h3, h4], by omega⟩
end Go.Proofs.YtpmjpogcaglphaaDoor.A
namespace Go.Proofs.YtpmjpogcaglphaaDoor
open Go Go.Proofs.YtpmjpogcaglphaaDoor.A
theorem Tryd.own : ownKnob Tryd.prog.godebug = none := by kernel_rfl
theorem Tryd.laidOut : laidOutB Tryd.prog = true := by kernel_rfl
end Go.Proofs.YtpmjpogcaglphaaDoor
namespace Go.Proofs.YtpmjpogcaglphaaDoor.A
open Go
set_option maxRecDepth 20000
noncomputable def fieldsOf (t : TypeId) : Array Field := match Tryd.prog.underlying t with | some (.struct fs) => fs | _ => #[]
end Go.Proofs.YtpmjpogcaglphaaDoor.A
