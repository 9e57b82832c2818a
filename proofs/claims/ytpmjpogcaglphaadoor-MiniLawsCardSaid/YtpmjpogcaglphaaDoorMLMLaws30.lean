/- mini.Compile: the least machine of a text's expression. -/
import Derived.Test.YtpmjpogcaglphaaDoorMLMLaws29
import Derived.Test.YtpmjpogcaglphaaDoorMLMLaws11
import Derived.Test.YtpmjpogcaglphaaDoorMLMLaws16
import Derived.Test.YtpmjpogcaglphaaDoorMLMLaws22
set_option linter.unusedVariables false
set_option linter.unusedSimpArgs false
set_option linter.unnecessarySimpa false
namespace Go.Proofs.YtpmjpogcaglphaaDoor.A
open Go
set_option maxRecDepth 20000
noncomputable def as6 (x : Nd) : Option (List Int × List Bool) × Int :=
 if (d7 x b0).2.n > 1000 then (none, 4) else
 match aw4 (d7 x b0).2.n (d7 x b0).1.1 (d7 x b0).2.s (d7 x b0).2.f 200 with
 | none => (none, 5)
 | some (L, R) => (some (ar4 (R4 R) (ac6 (d7 x b0).1.2 L), Z1 (R4 R) (ac6 (d7 x b0).1.2 L)), 0)
noncomputable def U7 (s : List UInt8) : Option (List Int × List Bool) × Int := if (u4 s).2.2 ≠ 0 then (none, (u4 s).2.2) else as6 (u4 s).1
def W9 : Option (List Int × List Bool) × Int → AV
 | (some (N, A), e) => .tup [.agg [.sl A.length (cI N), .sl A.length (cB A)], .int .i64 e]
 | (none, e) => .tup [.agg [.sl 0 [], .sl 0 []], .int .i64 e]
def bH9 (s : List UInt8) : Prop := (u4 s).2.2 = 0 → okN (u4 s).1 = true ∧ okS (u4 s).1 = true ∧ hN (u4 s).1 ≤ 1000
def bI0 (args : List AV) (r : AV) : Prop := ∃ x, okN x = true ∧ hN x ≤ 1000 ∧ args = [j5 x] ∧ r = ap0 (d7 x b0)
theorem bI1 : Q5 bI0 := by
 rintro args r r' ⟨x, _, _, rfl, rfl⟩ ⟨x', _, _, h, rfl⟩
 simp only [List.cons.injEq, AV.agg.injEq, and_true] at h
 rw [Y4 h]
theorem bI2 (args r) (h : bI0 args r) : Ok Tryd.prog 46 args r := by obtain ⟨x, h1, h2, rfl, rfl⟩ := h; exact aO2 h1 h2
noncomputable def XCo : FuncId → List AV → Option AV := p4 [(45, E3 aV5), (46, E3 bI0), (47, E3 bG5), (16, E3 cF3)]
theorem cu4 : m7 Tryd.prog XCo := k0 (k0 (k0 (k0 (p9 _) (n5 bv1)) (n5 bt0)) (n5 bI2)) (n5 br4)
theorem cu5 : f7 (EX md0 XCo) (fun _ => none) 4 Tryd.f24 = true := by kernel_rfl
theorem aq8 {N : Nat} {S : Int} {ss fs} {cap : Nat} {L : List (List Bool)} {R : List Nat} (h : aw4 N S ss fs cap = some (L, R)) (hc : 1 ≤ cap) : L.length ≤ cap := by
 exact (aW2 (S := [t0S N S fs]) (by simpa using hc) h).2.1
set_option maxHeartbeats 4000000 in
theorem bI3 (s : List UInt8) (hg : bH9 s) : Ok Tryd.prog 24 [.str s] (W9 (U7 s)) := by
 refine m5 (E := EX md0 XCo) (cr := noR) cu4 (o8 _) mixed (k := 6) Tryd.func24 cu5 rfl ?_
 have hp : XCo 45 [.str s] = some (.tup [j5 (u4 s).1, .int .i64 (u4 s).2.1, .int .i64 (u4 s).2.2]) := m8 (R := aV5) br5 ⟨s, rfl, rfl⟩
 have ec : U7 s = if (u4 s).2.2 ≠ 0 then (none, (u4 s).2.2) else as6 (u4 s).1 := rfl
 unfold bH9 at hg
 simp only [Tryd.f24, Option.getD_some]
 generalize (u4 s).1 = x at *
 generalize (u4 s).2.1 = at_ at *
 generalize (u4 s).2.2 = e at *
 by_cases he : e = 0
 ·subst he
  obtain ⟨g1, g2, g3⟩ := hg rfl
  rw [if_neg (by simp)] at ec
  have hb : XCo 46 [j5 x] = some (ap0 (d7 x b0)) := m8 (R := bI0) bI1 ⟨x, g1, g3, rfl, rfl⟩
  by_cases hn : (d7 x b0).2.n > 1000
  ·have e : ap0 (d7 x b0) = .tup [ao2 0 0 0 [] [], .int .i64 4] := if_pos hn
   rw [e] at hb
   rw [as6, if_pos hn] at ec
   rw [ec, W9]
   obtain ⟨k, s', lo, hi, c⟩ := x
   simp only [j5, o7] at hp hb
   simp (disch := omega) only [go_sem, hp, hb]
   done
  ·have e : ap0 (d7 x b0) = .tup [ao2 (d7 x b0).2.n (d7 x b0).1.1 (d7 x b0).1.2 (d7 x b0).2.s (d7 x b0).2.f, .int .i64 0] := if_neg hn
   rw [e] at hb
   obtain ⟨hw, hss⟩ := aU7 g1 g2 (by omega)
   have hs : XCo 47 [ao2 (d7 x b0).2.n (d7 x b0).1.1 (d7 x b0).1.2 (d7 x b0).2.s (d7 x b0).2.f, .int .i64 200] = some (cf8 (d7 x b0).1.2 (aw4 (d7 x b0).2.n (d7 x b0).1.1 (d7 x b0).2.s (d7 x b0).2.f 200)) :=
    m8 (R := bG5) bG6 ⟨_, _, _, _, _, 200, by omega, hw, hss, by omega, by omega, rfl, rfl⟩
   rw [as6, if_neg hn] at ec
   cases hm : aw4 (d7 x b0).2.n (d7 x b0).1.1 (d7 x b0).2.s (d7 x b0).2.f 200 with
   | none =>
    rw [hm] at hs ec
    have hs : XCo 47 _ = some (.tup [.agg [.sl 0 [], .sl 0 []], .int .i64 5]) := hs
    dsimp only at ec
    rw [ec, W9]
    clear hw hss hm e ec
    generalize (d7 x b0).2.n = N at *
    generalize (d7 x b0).1.1 = S at *
    generalize (d7 x b0).1.2 = F at *
    generalize (d7 x b0).2.s = ss at *
    generalize (d7 x b0).2.f = fs at *
    obtain ⟨k, s', lo, hi, c⟩ := x
    simp only [j5, o7] at hp hb
    simp (disch := omega) only [go_sem, hp, hb, hs]
    done
   | some p =>
    obtain ⟨L, R⟩ := p
    have hL := aq8 hm (by omega)
    have hwf := bs9 (F := (d7 x b0).1.2) hm (by omega)
    rw [hm] at hs ec
    have hmi : XCo 16 [ar3 L.length (R4 R) (ac6 (d7 x b0).1.2 L)] = some (ar3 (Z1 (R4 R) (ac6 (d7 x b0).1.2 L)).length (ar4 (R4 R) (ac6 (d7 x b0).1.2 L)) (Z1 (R4 R) (ac6 (d7 x b0).1.2 L))) := m8 (R := cF3) bX9 ⟨_, _, _, hwf, rfl, rfl⟩
    have hs : XCo 47 _ = some (.tup [ar3 L.length (R4 R) (ac6 (d7 x b0).1.2 L), .int .i64 0]) := hs
    dsimp only at ec
    rw [ec, W9]
    clear hw hss hm e ec hwf
    generalize (d7 x b0).2.n = N at *
    generalize (d7 x b0).1.1 = S at *
    generalize ac6 (d7 x b0).1.2 L = A at *
    generalize (d7 x b0).1.2 = F at *
    generalize (d7 x b0).2.s = ss at *
    generalize (d7 x b0).2.f = fs at *
    generalize R4 R = M at *
    generalize Z1 M A = A' at *
    generalize ar4 M A = M' at *
    obtain ⟨k, s', lo, hi, c⟩ := x
    simp only [j5, o7] at hp hb
    simp (disch := omega) only [go_sem, hp, hb, hs, hmi]
    done
 ·rw [if_pos he] at ec
  rw [ec, W9]
  obtain ⟨k, s', lo, hi, c⟩ := x
  simp only [j5, o7] at hp
  simp (disch := omega) only [go_sem, hp, he]
  done
def bv2 (args : List AV) (r : AV) : Prop := ∃ s, bH9 s ∧ args = [.str s] ∧ r = W9 (U7 s)
theorem aX4 : Q5 bv2 := by
 rintro args r r' ⟨s, _, rfl, rfl⟩ ⟨s', _, h, rfl⟩
 simp only [List.cons.injEq, AV.str.injEq, and_true] at h
 rw [h]
theorem bI4 (args r) (h : bv2 args r) : Ok Tryd.prog 24 args r := by obtain ⟨s, h1, rfl, rfl⟩ := h; exact bI3 s h1
end Go.Proofs.YtpmjpogcaglphaaDoor.A
