/- nfa.Build: the machine of any tree. -/
import Derived.Test.YtpmjpogcaglphaaGreatDoorMLMCompiles10
import Derived.Test.YtpmjpogcaglphaaGreatDoorMLMCompiles12
set_option linter.unusedVariables false
set_option linter.unusedSimpArgs false
set_option linter.unnecessarySimpa false
namespace Go.Proofs.YtpmjpogcaglphaaGreatDoor.A
open Go
set_option maxRecDepth 20000
abbrev b0 : BS := ⟨0,[],[]⟩
def R0 (r : (Int × Int) × BS) : AV := if r.2.n > 1000 then .tup [Z0 0 0 0 [] [],.int .i64 4] else .tup [Z0 r.2.n r.1.1 r.1.2 r.2.s r.2.f,.int .i64 0]
def ab1 (id : Nat) : Option (List (Nat × Nat)) := if id = 5 then some [(4,15),(6,15),(8,15),(15,20),(15,21),(4,22),(6,22),(8,22),(13,22),(14,22),(15,22),(4,24),(6,24),(8,24),(13,24),(14,24),(15,24),(20,24),(21,24),(22,24)] else none
theorem bJ2 (X) : d9 (EX md0 X) ab1 1 Tryz.f23 = true := by kernel_rfl
theorem bv9 : x8 Tryz.prog (p8 [(51,B1 D4),(52,B1 ad5)])∧Up (p8 [(51,B1 D4),(52,B1 ad5)]) :=
 m9 (m9 (C1 _) fun args H v H' h=>(u0 h).1) fun args H v H' h=>(u0 h).1
theorem bJ3 (z : List AV) (n : Nat) : (rep z n).length = n * z.length := by
 induction n with
 | zero=>simp[rep]
 | succ n ih=>rw[rep,List.length_append,ih,Nat.succ_mul];omega
theorem bf3 {x : Nd} (hk : okN x = true) (hh : hN x≤1000) : Ok Tryz.prog 23 [j5 x] (R0 (d7 x b0)) := by
 obtain ⟨cr,hcr⟩ : ∃ cr,cr = p8 [(51,B1 D4),(52,B1 ad5)]:=⟨_,rfl⟩
 have hP : cr 51 = B1 D4:=by rw[hcr];rfl
 have hU : cr 52 = B1 ad5:=by rw[hcr];rfl
 have hbd:=ad9 x hk b0
 obtain ⟨r,hr⟩ : ∃ r,r = d7 x b0:=⟨_,rfl⟩
 refine m7 (E:=EX md0 (fun _ _=>none)) (cr:=cr) (nz:=ab1) (z8 _) (hcr ▸ bv9) mixed (k:=0) Tryz.func23 (bJ2 _) rfl ?_
 clear hcr
 simp only[Tryz.f23,Option.getD_some]
 simp (disch:=omega) only[go_sem,hP,ab1]
 have hB0 : BAt (upd (upd (upd (fun x=>none) (0,1) (.row ⟨28,1,(0,1),false,true,cNd x⟩)) (0,2) (.row ⟨62,1,(0,2),false,true,[.int .i64 0,.int .i64 0,.int .i64 0,.nil,.nil]⟩)) (1,8) (.row ⟨106,1,(1,8),false,true,[.int .i64 0,.int .i64 0,.int .i64 0,.nil,.nil]⟩)) 3 1 b0 :=
  ⟨.nil,.nil,by omega,d8 _ _ _,HS.nil,HS.nil⟩
 refine am6 (aK6 x hk hh 1 _ _ b0 hB0 ⟨Nat.le_refl _,Nat.le_refl _,by show 0+2 * hN x≤_;omega⟩) hB0 ?_
 intro o1 nx1 hle1 hB1 hk1
 have hx2 : o1 (0,2) = some (.row ⟨62,1,(0,2),false,true,[.int .i64 0,.int .i64 0,.int .i64 0,.nil,.nil]⟩):=by rw[hk1 _ _ (by omega) (fun e=>absurd e (by decide)) (by decide) (by decide)];simp[b9]
 clear hB0 hk1
 rw[← hr] at hB1 ⊢
 have b1 : r.2.n≤4000:=by have:=hbd.hi;rw[hr];have : b0.n = 0:=rfl;omega
 have b2 : r.2.f.length≤16000:=by have:=hbd.f4;have e1 : b0.n = 0:=rfl;have e2 : b0.f.length = 0:=rfl;rw[← hr] at this;omega
 have b3 : r.2.s.length≤4000:=by have:=hbd.s1;have e1 : b0.n = 0:=rfl;have e2 : b0.s.length = 0:=rfl;rw[← hr] at this;omega
 clear hr hbd
 simp (disch:=omega) only[go_sem,hU,ab1]
 refine ad6 (hB1.slot2 (fun i j hj=>?_) (by omega)) ?_
 ·have : j ≠ 5:=by omega
  simp[b9,this]
 intro o2 nx2 hle2 hB2 hk2
 have hx22 : o2 (0,2) = some (.row ⟨62,1,(0,2),false,true,[.int .i64 0,.int .i64 0,.int .i64 0,.nil,.nil]⟩):=by rw[hk2 _ _ (by omega) (fun e=>absurd e (by decide)) (by decide) (by decide)];simp[b9,hx2]
 have hx5 : o2 (2,5) = some (.row ⟨108,1,(2,5),false,true,[.int .i64 r.1.1,.int .i64 r.1.2]⟩):=by rw[hk2 _ _ (by omega) (fun e=>absurd e (by decide)) (by decide) (by decide)];simp[b9]
 clear hk2 hB1 hx2
 by_cases hfull : (1000 : Int) < r.2.n
 ·have e : R0 r = .tup [Z0 0 0 0 [] [],.int .i64 4]:=if_pos (by omega)
  rw[e]
  simp (disch:=omega) only[go_sem,hfull,hx22,ab1]
  rfl
 ·have e : R0 r = .tup [Z0 r.2.n r.1.1 r.1.2 r.2.s r.2.f,.int .i64 0]:=if_neg (by omega)
  rw[e]
  obtain ⟨vS,vF,hB⟩:=hB2
  have r1:=hB.lt
  have r2:=hB.row
  have r3:=hB.s.ok
  have r4:=hB.f.ok
  have s0:=aJ8 (x:=r.2.s) (y:=[])
  have f0:=au2 (x:=r.2.f) (y:=[])
  have l3:=bJ3 [.int .i64 0,.int .i64 0,.int .i64 0] r.2.s.length
  have l2:=bJ3 [.int .i64 0,.int .i64 0] r.2.f.length
  simp only[List.length_cons,List.length_nil,Nat.zero_add,Nat.reduceAdd] at l3 l2
  have d3 : (rep [.int .i64 0,.int .i64 0,.int .i64 0] r.2.s.length).drop (r.2.s.length * 3) = []:=List.drop_of_length_le (by omega)
  have d2 : (rep [.int .i64 0,.int .i64 0] r.2.f.length).drop (r.2.f.length * 2) = []:=List.drop_of_length_le (by omega)
  rcases hB.s with ⟨rfl,q2,q3⟩ | ⟨i1,g1,rfl,hi1,hrow,hlen⟩
  ·rcases hB.f with ⟨rfl,q5,q6⟩ | ⟨i2,g2,rfl,hi2,hrow2,hlen2⟩
   ·simp (disch:=omega) only[go_sem,hfull,hx22,hx5,r2,ab1]
    rw[s0 q3,f0 q6]
    rfl
   ·simp (disch:=omega) only[go_sem,hfull,hx22,hx5,r2,ab1,hrow2,l2,l3,d2,d3]
    rw[s0 q3]
    rfl
  ·rcases hB.f with ⟨rfl,q5,q6⟩ | ⟨i2,g2,rfl,hi2,hrow2,hlen2⟩
   ·simp (disch:=omega) only[go_sem,hfull,hx22,hx5,r2,ab1,hrow,l2,l3,d2,d3]
    rw[f0 q6]
    rfl
   ·simp (disch:=omega) only[go_sem,hfull,hx22,hx5,r2,ab1,hrow,hrow2,l2,l3,d2,d3]
set_option maxRecDepth 20000
mutual
def okQ : Nd→Bool
 | .mk kind _ lo hi l=>cd6 l && (if kind = 4 ∨ kind = 5 then decide (0 < l.length∧l.length≤1000) else if kind = 6 ∨ kind = 7 ∨ kind = 8 then decide (l.length = 1) else if kind = 9 then decide (0 < l.length∧l.length≤1000∧0≤lo∧lo≤hi∧hi≤10) else decide (l.length = 0))
def cd6 : List Nd→Bool
 | []=>true
 | x :: l=>okQ x && cd6 l
end
mutual
theorem cz1 : ∀ (x : Nd),okQ x = true→okN x = true
 | .mk kind set lo hi l,h=>by
  rw[okQ,Bool.and_eq_true] at h
  rw[okN,aC8 l h.1,Bool.true_and]
  have h2:=h.2
  by_cases k4 : kind = 4 ∨ kind = 5
  ·rw[if_pos k4] at h2
   rw[if_pos (by omega)];exact h2
  rw[if_neg k4] at h2
  by_cases k6 : kind = 6 ∨ kind = 7 ∨ kind = 8
  ·rw[if_pos k6,decide_eq_true_eq] at h2
   rw[if_pos (by omega),decide_eq_true_eq];omega
  rw[if_neg k6] at h2
  rw[if_neg (by omega)]
  by_cases k9 : kind = 9
  ·rw[if_pos k9] at h2 ⊢;exact h2
  ·rw[if_neg k9]
theorem aC8 : ∀ (l : List Nd),cd6 l = true→ab8 l = true
 | [],_=>by rw[ab8]
 | x :: l,h=>by
  rw[cd6,Bool.and_eq_true] at h
  rw[ab8,cz1 x h.1,aC8 l h.2];rfl
end
end Go.Proofs.YtpmjpogcaglphaaGreatDoor.A
