/- ref8.Compile: the document's machine of a text is the same plain one. -/
import Derived.Test.YtpmjpogcaglphaaGreatDoorMLMCompiles30
import Derived.Test.YtpmjpogcaglphaaGreatDoorMLMCompiles31
import Derived.Test.YtpmjpogcaglphaaGreatDoorMLMCompiles35
import Derived.Test.YtpmjpogcaglphaaGreatDoorMLMCompiles36
set_option linter.unusedVariables false
set_option linter.unusedSimpArgs false
set_option linter.unnecessarySimpa false
namespace Go.Proofs.YtpmjpogcaglphaaGreatDoor.A
open Go
set_option maxRecDepth 20000
theorem ax4 (s : List UInt8) : bR4 s := fun he=>by
 obtain ⟨h1,h2,h3⟩:=ba1 s he
 exact ⟨cz1 _ h1,h2,h3⟩
theorem bz9 (args r) (h : aE0 args r) : Ok Tryz.prog 25 args r := by obtain ⟨s,rfl,rfl⟩ := h;exact bT9 s
def cm1 (args : List AV) (r : AV) : Prop := ∃ x,okQ x = true∧args = [j5 x]∧r = R0 (d7 x b0)
theorem cm2 : N2 cm1 := by
 rintro args r r' ⟨x,_,rfl,rfl⟩ ⟨x',_,h,rfl⟩
 simp only[List.cons.injEq,AV.agg.injEq,and_true] at h
 rw[K0 h]
theorem cm3 (args r) (h : cm1 args r) : Ok Tryz.prog 26 args r := by obtain ⟨x,h1,rfl,rfl⟩ := h;exact bf7 h1
theorem bU0 (args r) (h : bg9 args r) : Ok Tryz.prog 27 args r := by obtain ⟨N,S,F,ss,fs,cap,h1,h2,h3,h4,h5,rfl,rfl⟩ := h;exact cG0 N S F ss fs h2 cap h4 h5
noncomputable def XCr : FuncId→List AV→Option AV := t7 [(25,D9 aE0),(26,D9 cm1),(27,D9 bg9),(28,D9 cE2)]
theorem di0 : s6 Tryz.prog XCr := l8 (l8 (l8 (l8 (t6 _) (n8 ci4)) (n8 bU0)) (n8 cm3)) (n8 bz9)
theorem di1 : d9 (EX md0 XCr) (fun _=>none) 4 Tryz.f10 = true := by kernel_rfl
set_option maxHeartbeats 4000000 in
theorem cm4 (s : List UInt8) : Ok Tryz.prog 10 [.str s] (an7 (V5 s)) := by
 refine m7 (E:=EX md0 XCr) (cr:=noR) di0 (q7 _) mixed (k:=6) Tryz.func10 di1 rfl ?_
 have hp : XCr 25 [.str s] = some (.tup [j5 (v7 s).1,.int .i64 (v7 s).2.1,.int .i64 (v7 s).2.2]):=o8 (R:=aE0) aX8 ⟨s,rfl,rfl⟩
 have ec : V5 s = if (v7 s).2.2 ≠ 0 then (none,(v7 s).2.2) else an6 (v7 s).1:=rfl
 have hg:=ba1 s
 simp only[Tryz.f10,Option.getD_some]
 generalize (v7 s).1 = x at *
 generalize (v7 s).2.1 = at_ at *
 generalize (v7 s).2.2 = e at *
 by_cases he : e = 0
 ·subst he
  obtain ⟨g1,g2,g3⟩:=hg rfl
  rw[if_neg (by simp)] at ec
  have hb : XCr 26 [j5 x] = some (R0 (d7 x b0)):=o8 (R:=cm1) cm2 ⟨x,g1,rfl,rfl⟩
  by_cases hn : (d7 x b0).2.n > 1000
  ·have e : R0 (d7 x b0) = .tup [Z0 0 0 0 [] [],.int .i64 4]:=if_pos hn
   rw[e] at hb
   rw[an6,if_pos hn] at ec
   rw[ec,an7]
   obtain ⟨k,s',lo,hi,c⟩:=x
   simp only[j5,n7] at hp hb
   simp (disch:=omega) only[go_sem,hp,hb]
   done
  ·have e : R0 (d7 x b0) = .tup [Z0 (d7 x b0).2.n (d7 x b0).1.1 (d7 x b0).1.2 (d7 x b0).2.s (d7 x b0).2.f,.int .i64 0]:=if_neg hn
   rw[e] at hb
   obtain ⟨hw,hss⟩:=aO7 (cz1 _ g1) g2 (by omega)
   have hs : XCr 27 [Z0 (d7 x b0).2.n (d7 x b0).1.1 (d7 x b0).1.2 (d7 x b0).2.s (d7 x b0).2.f,.int .i64 200] = some (bO6 (d7 x b0).1.2 (an0 (d7 x b0).2.n (d7 x b0).1.1 (d7 x b0).2.s (d7 x b0).2.f 200)) :=
    o8 (R:=bg9) bn9 ⟨_,_,_,_,_,200,by omega,hw,hss,by omega,by omega,rfl,rfl⟩
   rw[an6,if_neg hn] at ec
   cases hm : an0 (d7 x b0).2.n (d7 x b0).1.1 (d7 x b0).2.s (d7 x b0).2.f 200 with
   | none =>
    rw[hm] at hs ec
    have hs : XCr 27 _ = some (.tup [.agg [.sl 0 [],.sl 0 []],.int .i64 5]):=hs
    dsimp only at ec
    rw[ec,an7]
    clear hw hss hm e ec
    generalize (d7 x b0).2.n = N at *
    generalize (d7 x b0).1.1 = S at *
    generalize (d7 x b0).1.2 = F at *
    generalize (d7 x b0).2.s = ss at *
    generalize (d7 x b0).2.f = fs at *
    obtain ⟨k,s',lo,hi,c⟩:=x
    simp only[j5,n7] at hp hb
    simp (disch:=omega) only[go_sem,hp,hb,hs]
    done
   | some p =>
    obtain ⟨L,R⟩:=p
    have hL:=aj9 hm (by omega)
    have hwf:=bg8 (F:=(d7 x b0).1.2) hm (by omega)
    rw[hm] at hs ec
    have hmi : XCr 28 [S7 L.length (O8 R) (W4 (d7 x b0).1.2 L)] = some (S7 (W5 (O8 R) (W4 (d7 x b0).1.2 L)).length (an2 (O8 R) (W4 (d7 x b0).1.2 L)) (W5 (O8 R) (W4 (d7 x b0).1.2 L))):=o8 (R:=cE2) bQ7 ⟨_,_,_,hwf,rfl,rfl⟩
    have hs : XCr 27 _ = some (.tup [S7 L.length (O8 R) (W4 (d7 x b0).1.2 L),.int .i64 0]):=hs
    dsimp only at ec
    rw[ec,an7]
    clear hw hss hm e ec hwf
    generalize (d7 x b0).2.n = N at *
    generalize (d7 x b0).1.1 = S at *
    generalize W4 (d7 x b0).1.2 L = A at *
    generalize (d7 x b0).1.2 = F at *
    generalize (d7 x b0).2.s = ss at *
    generalize (d7 x b0).2.f = fs at *
    generalize O8 R = M at *
    generalize W5 M A = A' at *
    generalize an2 M A = M' at *
    obtain ⟨k,s',lo,hi,c⟩:=x
    simp only[j5,n7] at hp hb
    simp (disch:=omega) only[go_sem,hp,hb,hs,hmi]
    done
 ·rw[if_pos he] at ec
  rw[ec,an7]
  obtain ⟨k,s',lo,hi,c⟩:=x
  simp only[j5,n7] at hp
  simp (disch:=omega) only[go_sem,hp,he]
  done
theorem bU1 (args r) (h : aZ0 args r) : Ok Tryz.prog 10 args r := by obtain ⟨s,_,rfl,rfl⟩ := h;exact cm4 s
end Go.Proofs.YtpmjpogcaglphaaGreatDoor.A
