/- Arguments that read are data: machines, raw expressions. -/
import Derived.Test.YtpmjpogcaglphaaGreatDoorMLMCompiles17
import Derived.Test.YtpmjpogcaglphaaGreatDoorMLMCompiles8
set_option linter.unusedVariables false
set_option linter.unusedSimpArgs false
set_option linter.unnecessarySimpa false
namespace Go.Proofs.YtpmjpogcaglphaaGreatDoor.A
open Go
set_option maxRecDepth 20000
theorem ao4 {P : Program} {d : Nat} {t e : TypeId} (hu : P.underlying t = some (.slice e)) {xs : List AV} (h : Shaped P d t xs) : ∃ (d' : Nat) (parts : List (List AV)),d' < d∧xs = [.sl parts.length parts.flatten]∧parts.length≤maxLen∧∀ p ∈ parts,Shaped P d' e p := by
 cases d with
 | zero=>exact h.elim
 | succ d =>
  unfold Shaped at h
  rw[hu] at h
  obtain ⟨parts,h1,h2,h3⟩:=h
  exact ⟨d,parts,Nat.lt_succ_self d,h1,h2,h3⟩
theorem aH2 {P : Program} {d : Nat} {t : TypeId} {fs : Array Field} (hu : P.underlying t = some (.struct fs)) {xs : List AV} (h : Shaped P d t xs) : ∃ (d' : Nat) (parts : List (List AV)),d' < d∧xs = parts.flatten∧parts.length = fs.toList.length∧∀ (i : Nat) (f : Field) (p : List AV),fs.toList[i]? = some f→parts[i]? = some p→Shaped P d' f.type p := by
 cases d with
 | zero=>exact h.elim
 | succ d =>
  unfold Shaped at h
  rw[hu] at h
  obtain ⟨parts,h1,h2,h3⟩:=h
  exact ⟨d,parts,Nat.lt_succ_self d,h1,by simpa using h2,fun i f p hf hp=>h3 i f p (by simpa using hf) hp⟩
theorem bi0 : ∀ {parts : List (List AV)},(∀ p ∈ parts,∃ r,p = cRw r)→∃ l : List Rw,l.length = parts.length∧parts.flatten = aV6 l
 | [],_=>⟨[],rfl,by rw[aw2];rfl⟩
 | p :: parts,h=>by
  obtain ⟨r,rfl⟩:=h p (List.mem_cons_self ..)
  obtain ⟨l,h1,h2⟩:=bi0 (fun q hq=>h q (List.mem_cons_of_mem _ hq))
  exact ⟨r :: l,by simp[h1],by rw[U5,List.flatten_cons,h2]⟩
theorem bA5 : ∀ (d : Nat) (xs : List AV),Shaped Tryz.prog d 53 xs→∃ r,xs = cRw r := by
 have hu : Tryz.prog.underlying 53 = some (.struct (fieldsOf 53)):=by kernel_rfl
 have hi : Tryz.prog.underlying 3 = some (.int .i64):=by kernel_rfl
 have hf : (fieldsOf 53).toList.map (·.type) = [3,3,22]:=by kernel_rfl
 have hsl : Tryz.prog.underlying 22 = some (.slice 53):=by kernel_rfl
 intro d
 induction d using Nat.strongRecOn with
 | ind d ih =>
  intro xs h
  obtain ⟨d',parts,hd,rfl,hl,hp⟩:=aH2 hu h
  generalize fieldsOf 53 = fl at *
  have hl3 : fl.toList.length = 3:=by have:=congrArg List.length hf;simpa using this
  match hfl : fl.toList,hl3 with
  | [f1,f2,f3],_ =>
   rw[hfl] at hl hp hf
   simp only[List.map_cons,List.map_nil,List.cons.injEq,and_true] at hf
   obtain ⟨e1,e2,e3⟩:=hf
   match parts,hl with
   | [p1,p2,p3],_ =>
    obtain ⟨a,rfl⟩:=ar3 hi (e1 ▸ hp 0 f1 p1 rfl rfl)
    obtain ⟨b,rfl⟩:=ar3 hi (e2 ▸ hp 1 f2 p2 rfl rfl)
    obtain ⟨d4,q4,hd4,rfl,_,h4⟩:=ao4 hsl (e3 ▸ hp 2 f3 p3 rfl rfl)
    obtain ⟨l,s1,s2⟩:=bi0 (fun p hp=>ih d4 (by omega) p (h4 p hp))
    exact ⟨.mk a b l,by rw[ai0,slR,s1,s2.symm];rfl⟩
theorem co0 {x : AV} (h : aA7 Tryz.prog 22 x) : ∃ l,x = slR l := by
 have hsl : Tryz.prog.underlying 22 = some (.slice 53):=by kernel_rfl
 unfold aA7 at h
 rw[hsl] at h
 obtain ⟨d,h⟩:=h
 obtain ⟨d4,q4,_,e,_,h4⟩:=ao4 hsl h
 obtain ⟨l,s1,s2⟩:=bi0 (fun p hp=>bA5 d4 p (h4 p hp))
 injection e with e _
 exact ⟨l,by rw[e,slR,s1,s2]⟩
end Go.Proofs.YtpmjpogcaglphaaGreatDoor.A
