/- What all laws' rows share: arguments that read are data. -/
import Derived.Test.YtpmjpogcaglphaaGreatDoorRows
import Derived.Test.YtpmjpogcaglphaaGreatDoorMLMCompiles7
set_option linter.unusedVariables false
set_option linter.unusedSimpArgs false
set_option linter.unnecessarySimpa false
namespace Go.Proofs.YtpmjpogcaglphaaGreatDoor.A
open Go
theorem ar3 {P : Program} {d : Nat} {t : TypeId} {xs : List AV} (hu : P.underlying t = some (.int .i64)) (h : Shaped P d t xs) : ∃ n,xs = [.int .i64 n] := by
 cases d with
 | zero=>exact h.elim
 | succ d =>
  unfold Shaped at h
  rw[hu] at h
  obtain ⟨n,e,_⟩:=h
  exact ⟨n,e⟩
theorem bK5 {P : Program} {d : Nat} {t : TypeId} (hu : P.underlying t = some (.int .i64)) : ∀ parts : List (List AV),(∀ p ∈ parts,Shaped P d t p)→∃ ns : List Int,parts.length = ns.length∧parts.flatten = cI ns
 | [],_=>⟨[],rfl,rfl⟩
 | p :: parts,h=>by
  obtain ⟨n,rfl⟩:=ar3 hu (h p (List.mem_cons_self ..))
  obtain ⟨ns,h1,h2⟩:=bK5 hu parts (fun q hq=>h q (List.mem_cons_of_mem _ hq))
  exact ⟨n :: ns,by simp[h1],by simp[cI,h2]⟩
theorem ce4 {P : Program} {t e : TypeId} {x : AV} (hu : P.underlying t = some (.slice e)) (he : P.underlying e = some (.int .i64)) (h : aA7 P t x) : ∃ ns : List Int,x = slI ns∧ns.length≤maxLen := by
 unfold aA7 at h
 rw[hu] at h
 obtain ⟨d,h⟩:=h
 cases d with
 | zero=>exact h.elim
 | succ d =>
  unfold Shaped at h
  rw[hu] at h
  obtain ⟨parts,e1,hle,h2⟩:=h
  injection e1 with e1 _
  obtain ⟨ns,h3,h4⟩:=bK5 he parts h2
  exact ⟨ns,by rw[e1,h3,h4],by omega⟩
end Go.Proofs.YtpmjpogcaglphaaGreatDoor.A
namespace Go.Proofs.YtpmjpogcaglphaaGreatDoor
open Go Go.Proofs.YtpmjpogcaglphaaGreatDoor.A
theorem Tryz.own : ownKnob Tryz.prog.godebug = none := by kernel_rfl
theorem Tryz.laidOut : laidOutB Tryz.prog = true := by kernel_rfl
end Go.Proofs.YtpmjpogcaglphaaGreatDoor
namespace Go.Proofs.YtpmjpogcaglphaaGreatDoor.A
open Go
set_option maxRecDepth 20000
noncomputable def fieldsOf (t : TypeId) : Array Field := match Tryz.prog.underlying t with | some (.struct fs)=>fs | _=>#[]
end Go.Proofs.YtpmjpogcaglphaaGreatDoor.A
