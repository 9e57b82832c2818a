/- mini.Compile: the least machine of a text's expression. -/
import Derived.Test.YtpmjpogcaglphaaDoorMLMOne29
import Derived.Test.YtpmjpogcaglphaaDoorMLMOne11
import Derived.Test.YtpmjpogcaglphaaDoorMLMOne16
import Derived.Test.YtpmjpogcaglphaaDoorMLMOne22
set_option linter.unusedVariables false
set_option linter.unusedSimpArgs false
set_option linter.unnecessarySimpa false
namespace Go.Proofs.YtpmjpogcaglphaaDoor.A
open Go
set_option maxRecDepth 20000
noncomputable def av8 (x : Nd) : Option (List Int × List Bool) × Int :=
 if (d7 x b0).2.n > 1000 then (none, 4) else
 match az3 (d7 x b0).2.n (d7 x b0).1.1 (d7 x b0).2.s (d7 x b0).2.f 200 with
 | none => (none, 5)
 | some (L, R) => (some (aa1 (T9 R) (ae7 (d7 x b0).1.2 L), O3 (T9 R) (ae7 (d7 x b0).1.2 L)), 0)
noncomputable def am1 (s : List UInt8) : Option (List Int × List Bool) × Int := if (v6 s).2.2 ≠ 0 then (none, (v6 s).2.2) else av8 (v6 s).1
def ai7 : Option (List Int × List Bool) × Int → AV
 | (some (N, A), e) => .tup [.agg [.sl A.length (cI N), .sl A.length (cB A)], .int .i64 e]
 | (none, e) => .tup [.agg [.sl 0 [], .sl 0 []], .int .i64 e]
def bP9 (s : List UInt8) : Prop := (v6 s).2.2 = 0 → okN (v6 s).1 = true ∧ okS (v6 s).1 = true ∧ hN (v6 s).1 ≤ 1000
def bQ0 (args : List AV) (r : AV) : Prop := ∃ x, okN x = true ∧ hN x ≤ 1000 ∧ args = [f6 x] ∧ r = as0 (d7 x b0)
theorem bQ1 : K5 bQ0 := by
 rintro args r r' ⟨x, _, _, rfl, rfl⟩ ⟨x', _, _, h, rfl⟩
 simp only [List.cons.injEq, AV.agg.injEq, and_true] at h
 rw [T1 h]
theorem bQ2 (args r) (h : bQ0 args r) : Ok Tryd.prog 46 args r := by obtain ⟨x, h1, h2, rfl, rfl⟩ := h; exact aR5 h1 h2
noncomputable def XCo : FuncId → List AV → Option AV := p4 [(45, A4 aY9), (46, A4 bQ0), (47, A4 bO4), (16, A4 cr0)]
theorem cF8 : m9 Tryd.prog XCo := f9 (f9 (f9 (f9 (p7 _) (l9 bA7)) (l9 bx6)) (l9 bQ2)) (l9 bw1)
theorem cF9 : d9 (EX md0 XCo) (fun _ => none) 4 Tryd.f24 = true := by kernel_rfl
theorem au0 {N : Nat} {S : Int} {ss fs} {cap : Nat} {L : List (List Bool)} {R : List Nat} (h : az3 N S ss fs cap = some (L, R)) (hc : 1 ≤ cap) : L.length ≤ cap := by
 exact (aZ5 (S := [t0S N S fs]) (by simpa using hc) h).2.1
set_option maxHeartbeats 4000000 in
theorem bQ3 (s : List UInt8) (hg : bP9 s) : Ok Tryd.prog 24 [.str s] (ai7 (am1 s)) := by
 refine k0 (E := EX md0 XCo) (cr := noR) cF8 (m6 _) mixed (k := 6) Tryd.func24 cF9 rfl ?_
 have hp : XCo 45 [.str s] = some (.tup [f6 (v6 s).1, .int .i64 (v6 s).2.1, .int .i64 (v6 s).2.2]) := m5 (R := aY9) bw2 ⟨s, rfl, rfl⟩
 have ec : am1 s = if (v6 s).2.2 ≠ 0 then (none, (v6 s).2.2) else av8 (v6 s).1 := rfl
 unfold bP9 at hg
 simp only [Tryd.f24, Option.getD_some]
 generalize (v6 s).1 = x at *
 generalize (v6 s).2.1 = at_ at *
 generalize (v6 s).2.2 = e at *
 by_cases he : e = 0
 ·subst he
  obtain ⟨g1, g2, g3⟩ := hg rfl
  rw [if_neg (by simp)] at ec
  have hb : XCo 46 [f6 x] = some (as0 (d7 x b0)) := m5 (R := bQ0) bQ1 ⟨x, g1, g3, rfl, rfl⟩
  by_cases hn : (d7 x b0).2.n > 1000
  ·have e : as0 (d7 x b0) = .tup [ar1 0 0 0 [] [], .int .i64 4] := if_pos hn
   rw [e] at hb
   rw [av8, if_pos hn] at ec
   rw [ec, ai7]
   obtain ⟨k, s', lo, hi, c⟩ := x
   simp only [f6, n5] at hp hb
   simp (disch := omega) only [go_sem, hp, hb]
   done
  ·have e : as0 (d7 x b0) = .tup [ar1 (d7 x b0).2.n (d7 x b0).1.1 (d7 x b0).1.2 (d7 x b0).2.s (d7 x b0).2.f, .int .i64 0] := if_neg hn
   rw [e] at hb
   obtain ⟨hw, hss⟩ := aY1 g1 g2 (by omega)
   have hs : XCo 47 [ar1 (d7 x b0).2.n (d7 x b0).1.1 (d7 x b0).1.2 (d7 x b0).2.s (d7 x b0).2.f, .int .i64 200] = some (cq9 (d7 x b0).1.2 (az3 (d7 x b0).2.n (d7 x b0).1.1 (d7 x b0).2.s (d7 x b0).2.f 200)) :=
    m5 (R := bO4) bO5 ⟨_, _, _, _, _, 200, by omega, hw, hss, by omega, by omega, rfl, rfl⟩
   rw [av8, if_neg hn] at ec
   cases hm : az3 (d7 x b0).2.n (d7 x b0).1.1 (d7 x b0).2.s (d7 x b0).2.f 200 with
   | none =>
    rw [hm] at hs ec
    have hs : XCo 47 _ = some (.tup [.agg [.sl 0 [], .sl 0 []], .int .i64 5]) := hs
    dsimp only at ec
    rw [ec, ai7]
    clear hw hss hm e ec
    generalize (d7 x b0).2.n = N at *
    generalize (d7 x b0).1.1 = S at *
    generalize (d7 x b0).1.2 = F at *
    generalize (d7 x b0).2.s = ss at *
    generalize (d7 x b0).2.f = fs at *
    obtain ⟨k, s', lo, hi, c⟩ := x
    simp only [f6, n5] at hp hb
    simp (disch := omega) only [go_sem, hp, hb, hs]
    done
   | some p =>
    obtain ⟨L, R⟩ := p
    have hL := au0 hm (by omega)
    have hwf := bx5 (F := (d7 x b0).1.2) hm (by omega)
    rw [hm] at hs ec
    have hmi : XCo 16 [Z4 L.length (T9 R) (ae7 (d7 x b0).1.2 L)] = some (Z4 (O3 (T9 R) (ae7 (d7 x b0).1.2 L)).length (aa1 (T9 R) (ae7 (d7 x b0).1.2 L)) (O3 (T9 R) (ae7 (d7 x b0).1.2 L))) := m5 (R := cr0) ci2 ⟨_, _, _, hwf, rfl, rfl⟩
    have hs : XCo 47 _ = some (.tup [Z4 L.length (T9 R) (ae7 (d7 x b0).1.2 L), .int .i64 0]) := hs
    dsimp only at ec
    rw [ec, ai7]
    clear hw hss hm e ec hwf
    generalize (d7 x b0).2.n = N at *
    generalize (d7 x b0).1.1 = S at *
    generalize ae7 (d7 x b0).1.2 L = A at *
    generalize (d7 x b0).1.2 = F at *
    generalize (d7 x b0).2.s = ss at *
    generalize (d7 x b0).2.f = fs at *
    generalize T9 R = M at *
    generalize O3 M A = A' at *
    generalize aa1 M A = M' at *
    obtain ⟨k, s', lo, hi, c⟩ := x
    simp only [f6, n5] at hp hb
    simp (disch := omega) only [go_sem, hp, hb, hs, hmi]
    done
 ·rw [if_pos he] at ec
  rw [ec, ai7]
  obtain ⟨k, s', lo, hi, c⟩ := x
  simp only [f6, n5] at hp
  simp (disch := omega) only [go_sem, hp, he]
  done
def bQ4 (args : List AV) (r : AV) : Prop := ∃ s, bP9 s ∧ args = [.str s] ∧ r = ai7 (am1 s)
theorem bQ5 : K5 bQ4 := by
 rintro args r r' ⟨s, _, rfl, rfl⟩ ⟨s', _, h, rfl⟩
 simp only [List.cons.injEq, AV.str.injEq, and_true] at h
 rw [h]
theorem bQ6 (args r) (h : bQ4 args r) : Ok Tryd.prog 24 args r := by obtain ⟨s, h1, rfl, rfl⟩ := h; exact bQ3 s h1
end Go.Proofs.YtpmjpogcaglphaaDoor.A
