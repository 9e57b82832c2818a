/- Arguments that read are data: machines, raw expressions. -/
import Derived.Test.YtpmjpogcaglphaaDoorMLMLaws13
import Derived.Test.YtpmjpogcaglphaaDoorMLMLaws8
set_option linter.unusedVariables false
set_option linter.unusedSimpArgs false
set_option linter.unnecessarySimpa false
namespace Go.Proofs.YtpmjpogcaglphaaDoor.A
open Go
set_option maxRecDepth 20000
theorem ad2 {P : Program} {d : Nat} {t e : TypeId} (hu : P.underlying t = some (.slice e)) {xs : List AV} (h : Shaped P d t xs) : ∃ (d' : Nat) (parts : List (List AV)), d' < d ∧ xs = [.sl parts.length parts.flatten] ∧ parts.length ≤ maxLen ∧ ∀ p ∈ parts, Shaped P d' e p := by
 cases d with
 | zero => exact h.elim
 | succ d =>
  unfold Shaped at h
  rw [hu] at h
  obtain ⟨parts, h1, h2, h3⟩ := h
  exact ⟨d, parts, Nat.lt_succ_self d, h1, h2, h3⟩
theorem as7 {P : Program} {d : Nat} {t : TypeId} {fs : Array Field} (hu : P.underlying t = some (.struct fs)) {xs : List AV} (h : Shaped P d t xs) : ∃ (d' : Nat) (parts : List (List AV)), d' < d ∧ xs = parts.flatten ∧ parts.length = fs.toList.length ∧ ∀ (i : Nat) (f : Field) (p : List AV), fs.toList[i]? = some f → parts[i]? = some p → Shaped P d' f.type p := by
 cases d with
 | zero => exact h.elim
 | succ d =>
  unfold Shaped at h
  rw [hu] at h
  obtain ⟨parts, h1, h2, h3⟩ := h
  exact ⟨d, parts, Nat.lt_succ_self d, h1, by simpa using h2, fun i f p hf hp => h3 i f p (by simpa using hf) hp⟩
theorem aQ4 : ∀ {parts : List (List AV)}, (∀ p ∈ parts, ∃ r, p = cRw r) → ∃ l : List Rw, l.length = parts.length ∧ parts.flatten = aG7 l
 | [], _ => ⟨[], rfl, by rw [aj5]; rfl⟩
 | p :: parts, h => by
  obtain ⟨r, rfl⟩ := h p (List.mem_cons_self ..)
  obtain ⟨l, h1, h2⟩ := aQ4 (fun q hq => h q (List.mem_cons_of_mem _ hq))
  exact ⟨r :: l, by simp [h1], by rw [L0, List.flatten_cons, h2]⟩
theorem bf6 : ∀ (d : Nat) (xs : List AV), Shaped Tryd.prog d 75 xs → ∃ r, xs = cRw r := by
 have hu : Tryd.prog.underlying 75 = some (.struct (fieldsOf 75)) := by kernel_rfl
 have hi : Tryd.prog.underlying 3 = some (.int .i64) := by kernel_rfl
 have hf : (fieldsOf 75).toList.map (·.type) = [3, 3, 33] := by kernel_rfl
 have hsl : Tryd.prog.underlying 33 = some (.slice 75) := by kernel_rfl
 intro d
 induction d using Nat.strongRecOn with
 | ind d ih =>
  intro xs h
  obtain ⟨d', parts, hd, rfl, hl, hp⟩ := as7 hu h
  generalize fieldsOf 75 = fl at *
  have hl3 : fl.toList.length = 3 := by have := congrArg List.length hf; simpa using this
  match hfl : fl.toList, hl3 with
  | [f1, f2, f3], _ =>
   rw [hfl] at hl hp hf
   simp only [List.map_cons, List.map_nil, List.cons.injEq, and_true] at hf
   obtain ⟨e1, e2, e3⟩ := hf
   match parts, hl with
   | [p1, p2, p3], _ =>
    obtain ⟨a, rfl⟩ := aw2 hi (e1 ▸ hp 0 f1 p1 rfl rfl)
    obtain ⟨b, rfl⟩ := aw2 hi (e2 ▸ hp 1 f2 p2 rfl rfl)
    obtain ⟨d4, q4, hd4, rfl, _, h4⟩ := ad2 hsl (e3 ▸ hp 2 f3 p3 rfl rfl)
    obtain ⟨l, s1, s2⟩ := aQ4 (fun p hp => ih d4 (by omega) p (h4 p hp))
    exact ⟨.mk a b l, by rw [X6, slR, s1, s2.symm]; rfl⟩
theorem aY2 {x : AV} (h : aM1 Tryd.prog 33 x) : ∃ l, x = slR l := by
 have hsl : Tryd.prog.underlying 33 = some (.slice 75) := by kernel_rfl
 unfold aM1 at h
 rw [hsl] at h
 obtain ⟨d, h⟩ := h
 obtain ⟨d4, q4, _, e, _, h4⟩ := ad2 hsl h
 obtain ⟨l, s1, s2⟩ := aQ4 (fun p hp => bf6 d4 p (h4 p hp))
 injection e with e _
 exact ⟨l, by rw [e, slR, s1, s2]⟩
end Go.Proofs.YtpmjpogcaglphaaDoor.A
