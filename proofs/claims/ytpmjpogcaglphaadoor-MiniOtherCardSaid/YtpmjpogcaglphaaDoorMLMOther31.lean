/- mini.Compile: the least machine of a text's expression. -/
import Derived.Test.YtpmjpogcaglphaaDoorMLMOther30
import Derived.Test.YtpmjpogcaglphaaDoorMLMOther11
import Derived.Test.YtpmjpogcaglphaaDoorMLMOther16
import Derived.Test.YtpmjpogcaglphaaDoorMLMOther22
set_option linter.unusedVariables false
set_option linter.unusedSimpArgs false
set_option linter.unnecessarySimpa false
namespace Go.Proofs.YtpmjpogcaglphaaDoor.A
open Go
set_option maxRecDepth 20000
noncomputable def ar5 (x : Nd) : Option (List Int × List Bool) × Int :=
 if (d8 x b0).2.n > 1000 then (none, 4) else
 match aG5 (d8 x b0).2.n (d8 x b0).1.1 (d8 x b0).2.s (d8 x b0).2.f 200 with
 | none => (none, 5)
 | some (L, R) => (some (R5 (X3 R) (ah5 (d8 x b0).1.2 L), I5 (X3 R) (ah5 (d8 x b0).1.2 L)), 0)
noncomputable def ar6 (s : List UInt8) : Option (List Int × List Bool) × Int := if (s9 s).2.2 ≠ 0 then (none, (s9 s).2.2) else ar5 (s9 s).1
def aA1 : Option (List Int × List Bool) × Int → AV
 | (some (N, A), e) => .tup [.agg [.sl A.length (cI N), .sl A.length (cB A)], .int .i64 e]
 | (none, e) => .tup [.agg [.sl 0 [], .sl 0 []], .int .i64 e]
def bt6 (s : List UInt8) : Prop := (s9 s).2.2 = 0 → okN (s9 s).1 = true ∧ okS (s9 s).1 = true ∧ hN (s9 s).1 ≤ 1000
def bI0 (args : List AV) (r : AV) : Prop := ∃ x, okN x = true ∧ hN x ≤ 1000 ∧ args = [j5 x] ∧ r = ao3 (d8 x b0)
theorem bI1 : N1 bI0 := by
 rintro args r r' ⟨x, _, _, rfl, rfl⟩ ⟨x', _, _, h, rfl⟩
 simp only [List.cons.injEq, AV.agg.injEq, and_true] at h
 rw [Y0 h]
theorem bI2 (args r) (h : bI0 args r) : Ok Tryd.prog 46 args r := by obtain ⟨x, h1, h2, rfl, rfl⟩ := h; exact aM6 h1 h2
noncomputable def XCo : FuncId → List AV → Option AV := n7 [(45, w9 aT9), (46, w9 bI0), (47, w9 bG0), (16, w9 bH5)]
theorem cy1 : m6 Tryd.prog XCo := f9 (f9 (f9 (f9 (m7 _) (k0 aH2)) (k0 br0)) (k0 bI2)) (k0 bp6)
theorem cy2 : d6 (EX md0 XCo) (fun _ => none) 4 Tryd.f24 = true := by kernel_rfl
theorem aq2 {N : Nat} {S : Int} {ss fs} {cap : Nat} {L : List (List Bool)} {R : List Nat} (h : aG5 N S ss fs cap = some (L, R)) (hc : 1 ≤ cap) : L.length ≤ cap := by
 exact (aU3 (S := [t0S N S fs]) (by simpa using hc) h).2.1
set_option maxHeartbeats 4000000 in
theorem bI3 (s : List UInt8) (hg : bt6 s) : Ok Tryd.prog 24 [.str s] (aA1 (ar6 s)) := by
 refine j7 (E := EX md0 XCo) (cr := noR) cy1 (m5 _) mixed (k := 6) Tryd.func24 cy2 rfl ?_
 have hp : XCo 45 [.str s] = some (.tup [j5 (s9 s).1, .int .i64 (s9 s).2.1, .int .i64 (s9 s).2.2]) := l5 (R := aT9) bp7 ⟨s, rfl, rfl⟩
 have ec : ar6 s = if (s9 s).2.2 ≠ 0 then (none, (s9 s).2.2) else ar5 (s9 s).1 := rfl
 unfold bt6 at hg
 simp only [Tryd.f24, Option.getD_some]
 generalize (s9 s).1 = x at *
 generalize (s9 s).2.1 = at_ at *
 generalize (s9 s).2.2 = e at *
 by_cases he : e = 0
 ·subst he
  obtain ⟨g1, g2, g3⟩ := hg rfl
  rw [if_neg (by simp)] at ec
  have hb : XCo 46 [j5 x] = some (ao3 (d8 x b0)) := l5 (R := bI0) bI1 ⟨x, g1, g3, rfl, rfl⟩
  by_cases hn : (d8 x b0).2.n > 1000
  ·have e : ao3 (d8 x b0) = .tup [an4 0 0 0 [] [], .int .i64 4] := if_pos hn
   rw [e] at hb
   rw [ar5, if_pos hn] at ec
   rw [ec, aA1]
   obtain ⟨k, s', lo, hi, c⟩ := x
   simp only [j5, o8] at hp hb
   simp (disch := omega) only [go_sem, hp, hb]
   done
  ·have e : ao3 (d8 x b0) = .tup [an4 (d8 x b0).2.n (d8 x b0).1.1 (d8 x b0).1.2 (d8 x b0).2.s (d8 x b0).2.f, .int .i64 0] := if_neg hn
   rw [e] at hb
   obtain ⟨hw, hss⟩ := bC1 g1 g2 (by omega)
   have hs : XCo 47 [an4 (d8 x b0).2.n (d8 x b0).1.1 (d8 x b0).1.2 (d8 x b0).2.s (d8 x b0).2.f, .int .i64 200] = some (cj3 (d8 x b0).1.2 (aG5 (d8 x b0).2.n (d8 x b0).1.1 (d8 x b0).2.s (d8 x b0).2.f 200)) :=
    l5 (R := bG0) bG1 ⟨_, _, _, _, _, 200, by omega, hw, hss, by omega, by omega, rfl, rfl⟩
   rw [ar5, if_neg hn] at ec
   cases hm : aG5 (d8 x b0).2.n (d8 x b0).1.1 (d8 x b0).2.s (d8 x b0).2.f 200 with
   | none =>
    rw [hm] at hs ec
    have hs : XCo 47 _ = some (.tup [.agg [.sl 0 [], .sl 0 []], .int .i64 5]) := hs
    dsimp only at ec
    rw [ec, aA1]
    clear hw hss hm e ec
    generalize (d8 x b0).2.n = N at *
    generalize (d8 x b0).1.1 = S at *
    generalize (d8 x b0).1.2 = F at *
    generalize (d8 x b0).2.s = ss at *
    generalize (d8 x b0).2.f = fs at *
    obtain ⟨k, s', lo, hi, c⟩ := x
    simp only [j5, o8] at hp hb
    simp (disch := omega) only [go_sem, hp, hb, hs]
    done
   | some p =>
    obtain ⟨L, R⟩ := p
    have hL := aq2 hm (by omega)
    have hwf := bq9 (F := (d8 x b0).1.2) hm (by omega)
    rw [hm] at hs ec
    have hmi : XCo 16 [P8 L.length (X3 R) (ah5 (d8 x b0).1.2 L)] = some (P8 (I5 (X3 R) (ah5 (d8 x b0).1.2 L)).length (R5 (X3 R) (ah5 (d8 x b0).1.2 L)) (I5 (X3 R) (ah5 (d8 x b0).1.2 L))) := l5 (R := bH5) bt1 ⟨_, _, _, hwf, rfl, rfl⟩
    have hs : XCo 47 _ = some (.tup [P8 L.length (X3 R) (ah5 (d8 x b0).1.2 L), .int .i64 0]) := hs
    dsimp only at ec
    rw [ec, aA1]
    clear hw hss hm e ec hwf
    generalize (d8 x b0).2.n = N at *
    generalize (d8 x b0).1.1 = S at *
    generalize ah5 (d8 x b0).1.2 L = A at *
    generalize (d8 x b0).1.2 = F at *
    generalize (d8 x b0).2.s = ss at *
    generalize (d8 x b0).2.f = fs at *
    generalize X3 R = M at *
    generalize I5 M A = A' at *
    generalize R5 M A = M' at *
    obtain ⟨k, s', lo, hi, c⟩ := x
    simp only [j5, o8] at hp hb
    simp (disch := omega) only [go_sem, hp, hb, hs, hmi]
    done
 ·rw [if_pos he] at ec
  rw [ec, aA1]
  obtain ⟨k, s', lo, hi, c⟩ := x
  simp only [j5, o8] at hp
  simp (disch := omega) only [go_sem, hp, he]
  done
def bI4 (args : List AV) (r : AV) : Prop := ∃ s, bt6 s ∧ args = [.str s] ∧ r = aA1 (ar6 s)
theorem bI5 : N1 bI4 := by
 rintro args r r' ⟨s, _, rfl, rfl⟩ ⟨s', _, h, rfl⟩
 simp only [List.cons.injEq, AV.str.injEq, and_true] at h
 rw [h]
theorem bI6 (args r) (h : bI4 args r) : Ok Tryd.prog 24 args r := by obtain ⟨s, h1, rfl, rfl⟩ := h; exact bI3 s h1
end Go.Proofs.YtpmjpogcaglphaaDoor.A
