/- mini.Compile: the least machine of a text's expression. -/
import Derived.Test.YtpmjpogcaglphaaGreatDoorMLMCompiles20
import Derived.Test.YtpmjpogcaglphaaGreatDoorMLMCompiles24
import Derived.Test.YtpmjpogcaglphaaGreatDoorMLMCompiles29
import Derived.Test.YtpmjpogcaglphaaGreatDoorMLMCompiles15
set_option linter.unusedVariables false
set_option linter.unusedSimpArgs false
set_option linter.unnecessarySimpa false
namespace Go.Proofs.YtpmjpogcaglphaaGreatDoor.A
open Go
set_option maxRecDepth 20000
noncomputable def an6 (x : Nd) : Option (List Int × List Bool) × Int :=
 if (d7 x b0).2.n > 1000 then (none,4) else
 match an0 (d7 x b0).2.n (d7 x b0).1.1 (d7 x b0).2.s (d7 x b0).2.f 200 with
 | none=>(none,5)
 | some (L,R)=>(some (an2 (O8 R) (W4 (d7 x b0).1.2 L),W5 (O8 R) (W4 (d7 x b0).1.2 L)),0)
noncomputable def V5 (s : List UInt8) : Option (List Int × List Bool) × Int := if (v7 s).2.2 ≠ 0 then (none,(v7 s).2.2) else an6 (v7 s).1
def an7 : Option (List Int × List Bool) × Int→AV
 | (some (N,A),e)=>.tup [.agg [.sl A.length (cI N),.sl A.length (cB A)],.int .i64 e]
 | (none,e)=>.tup [.agg [.sl 0 [],.sl 0 []],.int .i64 e]
def bR4 (s : List UInt8) : Prop := (v7 s).2.2 = 0→okN (v7 s).1 = true∧okS (v7 s).1 = true∧hN (v7 s).1≤1000
def cj1 (args : List AV) (r : AV) : Prop := ∃ x,okN x = true∧hN x≤1000∧args = [j5 x]∧r = R0 (d7 x b0)
theorem cj2 : N2 cj1 := by
 rintro args r r' ⟨x,_,_,rfl,rfl⟩ ⟨x',_,_,h,rfl⟩
 simp only[List.cons.injEq,AV.agg.injEq,and_true] at h
 rw[K0 h]
theorem cj3 (args r) (h : cj1 args r) : Ok Tryz.prog 23 args r := by obtain ⟨x,h1,h2,rfl,rfl⟩ := h;exact bf3 h1 h2
noncomputable def XCo : FuncId→List AV→Option AV := t7 [(22,D9 aE0),(23,D9 cj1),(24,D9 bg9),(17,D9 cE2)]
theorem df3 : s6 Tryz.prog XCo := l8 (l8 (l8 (l8 (t6 _) (n8 bR3)) (n8 bO7)) (n8 cj3)) (n8 bN8)
theorem df4 : d9 (EX md0 XCo) (fun _=>none) 4 Tryz.f9 = true := by kernel_rfl
theorem aj9 {N : Nat} {S : Int} {ss fs} {cap : Nat} {L : List (List Bool)} {R : List Nat} (h : an0 N S ss fs cap = some (L,R)) (hc : 1≤cap) : L.length≤cap := by
 exact (bk8 (S:=[t0S N S fs]) (by simpa using hc) h).2.1
set_option maxHeartbeats 4000000 in
theorem cj4 (s : List UInt8) (hg : bR4 s) : Ok Tryz.prog 9 [.str s] (an7 (V5 s)) := by
 refine m7 (E:=EX md0 XCo) (cr:=noR) df3 (q7 _) mixed (k:=6) Tryz.func9 df4 rfl ?_
 have hp : XCo 22 [.str s] = some (.tup [j5 (v7 s).1,.int .i64 (v7 s).2.1,.int .i64 (v7 s).2.2]):=o8 (R:=aE0) aX8 ⟨s,rfl,rfl⟩
 have ec : V5 s = if (v7 s).2.2 ≠ 0 then (none,(v7 s).2.2) else an6 (v7 s).1:=rfl
 unfold bR4 at hg
 simp only[Tryz.f9,Option.getD_some]
 generalize (v7 s).1 = x at *
 generalize (v7 s).2.1 = at_ at *
 generalize (v7 s).2.2 = e at *
 by_cases he : e = 0
 ·subst he
  obtain ⟨g1,g2,g3⟩:=hg rfl
  rw[if_neg (by simp)] at ec
  have hb : XCo 23 [j5 x] = some (R0 (d7 x b0)):=o8 (R:=cj1) cj2 ⟨x,g1,g3,rfl,rfl⟩
  by_cases hn : (d7 x b0).2.n > 1000
  ·have e : R0 (d7 x b0) = .tup [Z0 0 0 0 [] [],.int .i64 4]:=if_pos hn
   rw[e] at hb
   rw[an6,if_pos hn] at ec
   rw[ec,an7]
   obtain ⟨k,s',lo,hi,c⟩:=x
   simp only[j5,n7] at hp hb
   simp (disch:=omega) only[go_sem,hp,hb]
   done
  ·have e : R0 (d7 x b0) = .tup [Z0 (d7 x b0).2.n (d7 x b0).1.1 (d7 x b0).1.2 (d7 x b0).2.s (d7 x b0).2.f,.int .i64 0]:=if_neg hn
   rw[e] at hb
   obtain ⟨hw,hss⟩:=aO7 g1 g2 (by omega)
   have hs : XCo 24 [Z0 (d7 x b0).2.n (d7 x b0).1.1 (d7 x b0).1.2 (d7 x b0).2.s (d7 x b0).2.f,.int .i64 200] = some (bO6 (d7 x b0).1.2 (an0 (d7 x b0).2.n (d7 x b0).1.1 (d7 x b0).2.s (d7 x b0).2.f 200)) :=
    o8 (R:=bg9) bn9 ⟨_,_,_,_,_,200,by omega,hw,hss,by omega,by omega,rfl,rfl⟩
   rw[an6,if_neg hn] at ec
   cases hm : an0 (d7 x b0).2.n (d7 x b0).1.1 (d7 x b0).2.s (d7 x b0).2.f 200 with
   | none =>
    rw[hm] at hs ec
    have hs : XCo 24 _ = some (.tup [.agg [.sl 0 [],.sl 0 []],.int .i64 5]):=hs
    dsimp only at ec
    rw[ec,an7]
    clear hw hss hm e ec
    generalize (d7 x b0).2.n = N at *
    generalize (d7 x b0).1.1 = S at *
    generalize (d7 x b0).1.2 = F at *
    generalize (d7 x b0).2.s = ss at *
    generalize (d7 x b0).2.f = fs at *
    obtain ⟨k,s',lo,hi,c⟩:=x
    simp only[j5,n7] at hp hb
    simp (disch:=omega) only[go_sem,hp,hb,hs]
    done
   | some p =>
    obtain ⟨L,R⟩:=p
    have hL:=aj9 hm (by omega)
    have hwf:=bg8 (F:=(d7 x b0).1.2) hm (by omega)
    rw[hm] at hs ec
    have hmi : XCo 17 [S7 L.length (O8 R) (W4 (d7 x b0).1.2 L)] = some (S7 (W5 (O8 R) (W4 (d7 x b0).1.2 L)).length (an2 (O8 R) (W4 (d7 x b0).1.2 L)) (W5 (O8 R) (W4 (d7 x b0).1.2 L))):=o8 (R:=cE2) bQ7 ⟨_,_,_,hwf,rfl,rfl⟩
    have hs : XCo 24 _ = some (.tup [S7 L.length (O8 R) (W4 (d7 x b0).1.2 L),.int .i64 0]):=hs
    dsimp only at ec
    rw[ec,an7]
    clear hw hss hm e ec hwf
    generalize (d7 x b0).2.n = N at *
    generalize (d7 x b0).1.1 = S at *
    generalize W4 (d7 x b0).1.2 L = A at *
    generalize (d7 x b0).1.2 = F at *
    generalize (d7 x b0).2.s = ss at *
    generalize (d7 x b0).2.f = fs at *
    generalize O8 R = M at *
    generalize W5 M A = A' at *
    generalize an2 M A = M' at *
    obtain ⟨k,s',lo,hi,c⟩:=x
    simp only[j5,n7] at hp hb
    simp (disch:=omega) only[go_sem,hp,hb,hs,hmi]
    done
 ·rw[if_pos he] at ec
  rw[ec,an7]
  obtain ⟨k,s',lo,hi,c⟩:=x
  simp only[j5,n7] at hp
  simp (disch:=omega) only[go_sem,hp,he]
  done
def aZ0 (args : List AV) (r : AV) : Prop := ∃ s,bR4 s∧args = [.str s]∧r = an7 (V5 s)
theorem aP6 : N2 aZ0 := by
 rintro args r r' ⟨s,_,rfl,rfl⟩ ⟨s',_,h,rfl⟩
 simp only[List.cons.injEq,AV.str.injEq,and_true] at h
 rw[h]
theorem cj5 (args r) (h : aZ0 args r) : Ok Tryz.prog 9 args r := by obtain ⟨s,h1,rfl,rfl⟩ := h;exact cj4 s h1
end Go.Proofs.YtpmjpogcaglphaaGreatDoor.A
