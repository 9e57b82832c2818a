/- l4 part and Make: contracts. UNDER WAY. -/
import Derived.Test.YtpmjpogcaglphaaGreatDoorMLMCompiles8
set_option linter.unusedVariables false
set_option linter.unusedSimpArgs false
set_option linter.unnecessarySimpa false
namespace Go.Proofs.YtpmjpogcaglphaaGreatDoor.A
open Go
set_option maxRecDepth 20000
theorem bG6 (x : Int) : IntKind.u64.wrap (x % 5) = x % 5 := IntWalk.u64_in _ (by have := Int.emod_nonneg x (show (5 : Int) ≠ 0 by decide);have := Int.emod_lt_of_pos x (show (0 : Int) < 5 by decide);omega)
def RMk (l : List Rw) (args : List AV) (r : AV) : Prop := ∃ i,i < l.length∧args = [aV8 (l.getD i default)]∧r = j5 (am2 (l.getD i default))
theorem cV5 (l) : N2 (RMk l) := by
 rintro args r r' ⟨i,_,rfl,rfl⟩ ⟨j,_,h,rfl⟩
 simp only[List.cons.injEq,AV.agg.injEq,and_true] at h
 rw[be6 h]
theorem cb5 (X) : d9 (EX md0 X) (fun _=>none) 2 Tryz.f40 = true := by kernel_rfl
theorem cx8 (k n : Int) (l : List Rw) (hch : ∀ i,i < l.length→Ok Tryz.prog 19 [aV8 (l.getD i default)] (j5 (am2 (l.getD i default)))) (i : Nat) (hi : i≤1000000) :
  Ok Tryz.prog 40 [aV8 (.mk k n l),.int .i64 i] (j5 (F7 n (B4 l) i)):=by
 refine m7 (E:=EX md0 (t7 [(19,D9 (RMk l)),(39,D9 RW)])) (cr:=noR) (l8 (l8 (t6 _) (n8 aJ9)) (n8 (fun args r h=>by obtain ⟨i,hi,rfl,rfl⟩:=h;exact hch i hi))) (q7 _) mixed (k:=0) Tryz.func40 (cb5 _) rfl ?_
 have hmk : ∀ j,j < l.length→t7 [(19,D9 (RMk l)),(39,D9 RW)] 19 [aV8 (l.getD j default)] = some (j5 (am2 (l.getD j default))):=fun j hj=>o8 (cV5 l) ⟨j,hj,rfl,rfl⟩
 have hwi : ∀ a m : Int,0 < m→m≤1000000→t7 [(19,D9 (RMk l)),(39,D9 RW)] 39 [.int .i64 a,.int .i64 m] = some (.int .i64 (a % m)):=fun a m h1 h2=>cx2 h1 h2
 simp only[Tryz.f40,Option.getD_some]
 by_cases hlt : i < l.length
 ·have hat:=bG3 hlt
  have e : F7 n (B4 l) i = am2 (l.getD i default):=by rw[F7,G3,if_pos hlt,bu3 hlt]
  rw[e]
  have hm:=hmk i hlt
  simp (disch:=omega) only[go_sem,hat,hm]
 ·have e : F7 n (B4 l) i = .mk 1 (bG4 (IntKind.i64.wrap (n+i))) 0 0 []:=by rw[F7,G3,if_neg hlt]
  rw[e]
  have hs:=bG6 (IntKind.i64.wrap (n+i))
  have hs0:=Int.emod_nonneg (IntKind.i64.wrap (n+i)) (show (5 : Int) ≠ 0 by decide)
  simp (disch:=omega) only[go_sem,hwi,hs]
  simp only[j5,n7,bG4,slN,r8,List.length_nil]
def bW7 : Nat→Option (List (Nat × Nat))
 | 17=>some [(1,4),(1,5)]
 | 25=>some [(1,4),(1,5)]
 | _=>none
theorem aO1 (n : Nat) : 2≤P8 n∧P8 n≤4 := by unfold P8;split <;> (try split) <;> omega
theorem bl2 {n i : Nat} (h : i < P8 n) : i < 2 ∨ (2≤i∧i < n∧i < 4) := by unfold P8 at h;split at h <;> (try split at h) <;> omega
theorem aB8 (k n : Int) (l : List Rw) (hpart : ∀ i : Nat,i≤1000000→Ok Tryz.prog 40 [aV8 (.mk k n l),.int .i64 i] (j5 (F7 n (B4 l) i))) (X : FuncId→List AV→Option AV)
  (hX : ∀ i : Nat,i≤1000000→X 40 [aV8 (.mk k n l),.int .i64 i] = some (j5 (F7 n (B4 l) i))) (kind : Int) {Q : s8} (a : v6) (o : Ob) (nx st : Nat) (hst : st < nx) (hst2 : 2≤st)
  (h1 : a 1 = .ptr (0,1) (0,1) 0) (h2 : a 2 = .ptr (0,2) (0,2) 0) (h3 : a 3 = .ptr (st,3) (st,3) 0) (h4 : a 4 = .int .i64 0)
  (ho1 : o (0,1) = some (.row ⟨53,1,(0,1),false,true,cRw (.mk k n l)⟩)) (ho2 : ∃ x,o (0,2) = some (.row ⟨28,1,(0,2),false,true,x⟩)∧x.length = 5) (ho3 : o (st,3) = some (.row ⟨28,1,(st,3),false,true,[.int .i64 kind,.int .i64 0,.int .i64 0,.int .i64 0,.nil]⟩))
  (hQ : ∀ a o nx,a 2 = .ptr (0,2) (0,2) 0→(∃ v,o (0,2) = some (.row ⟨28,1,(0,2),false,true,[.int .i64 kind,.int .i64 0,.int .i64 0,.int .i64 0,v]⟩)∧HS 28 5 63 o nx v (P8 l.length) (G0 ((List.range (P8 l.length)).map (F7 n (B4 l)))))→Q .ret a o nx) :
  WP (EX md0 X) noR 10 bW7 (u9 [1,0,1,0,1,1,1,1,1,1,1,0,1,0,1,0] (Tryz.f19.body.getD .skip)) a o nx (I8 1 (aA9 (EX md0 X) noR 10 bW7 (u9 [1,0,1,0,1,1,1,1,1,1,1,0,1,1] (Tryz.f19.body.getD .skip)) Q)):=by
 simp only[Tryz.f19,Option.getD_some,u9]
 have hc:=aO1 l.length
 refine o9 (fun m a o nx=>∃ i v,i≤P8 l.length∧m = P8 l.length - i∧st < nx∧a 1 = .ptr (0,1) (0,1) 0∧a 2 = .ptr (0,2) (0,2) 0∧a 3 = .ptr (st,3) (st,3) 0∧a 4 = .int .i64 i∧HS 28 5 63 o nx v i (G0 ((List.range i).map (F7 n (B4 l)))) ∧
  o (0,1) = some (.row ⟨53,1,(0,1),false,true,cRw (.mk k n l)⟩)∧(∃ x,o (0,2) = some (.row ⟨28,1,(0,2),false,true,x⟩)∧x.length = 5)∧o (st,3) = some (.row ⟨28,1,(st,3),false,true,[.int .i64 kind,.int .i64 0,.int .i64 0,.int .i64 0,v]⟩)) (P8 l.length) ?_ ⟨0,.nil,by omega,by omega,by omega,h1,h2,h3,h4,HS.nil,ho1,ho2,ho3⟩ ?_
 ·omega
 ·clear h1 h2 h3 h4 ho1 ho2 ho3
  rintro m a o nx ⟨i,v,hi,rfl,hnx,h1,h2,h3,h4,hHS,ho1,⟨x,ho2,hx5⟩,ho3⟩
  have hok:=hHS.ok
  by_cases hlt : i < P8 l.length
  ·have hcond : i < 2 ∨ (2≤i∧i < l.length∧i < 4):=bl2 hlt
   have hp:=hX i (by omega)
   simp only[aV8,j5,ai0] at hp
   have hsn : (List.range (i+1)).map (F7 n (B4 l)) = (List.range i).map (F7 n (B4 l))++[F7 n (B4 l) i]:=by rw[List.range_succ,List.map_append];rfl
   rcases hHS with ⟨rfl,e2,e3⟩ | ⟨i1,g1,rfl,hi1,hrow,hlen⟩
   ·rcases hcond with c | ⟨c1,c2,c3⟩
    ·simp (disch:=omega) only[go_sem,h1,h2,h3,h4,ho1,ho2,ho3,hp,bW7]
     refine ⟨_,?_,i+1,_,by omega,rfl,by omega,rfl,?_,⟨x,rfl,hx5⟩,rfl⟩
     ·omega
     ·rw[hsn,W1,A5,List.map_eq_nil_iff.2 (List.length_eq_zero_iff.1 (by rw[List.length_range];exact e2)),r8]
      exact .inr ⟨nx+1,_,by rw[e2],by omega,by simp[b9],by rw[List.nil_append,C4,e2]⟩
    ·omega
   ·obtain ⟨cs,hcs⟩ : ∃ cs,cs = G0 ((List.range i).map (F7 n (B4 l))):=⟨_,rfl⟩
    rw[← hcs] at hrow hlen
    have htk : cs.take (i * 5) = cs:=j7 hlen
    have hfin : ∀ o' nx',o' (i1,63) = some (.row ⟨28,5,(nx+1,63),false,true,cs++cNd (F7 n (B4 l) i)⟩)→i1 < nx'→HS 28 5 63 o' nx' (.ref (i1,63) (nx+1,63) 0 (i+1)) (i+1) (G0 ((List.range (i+1)).map (F7 n (B4 l)))):=by
     intro o' nx' h h'
     rw[hsn,W1,A5,← hcs]
     exact .inr ⟨i1,_,rfl,h',h,by rw[List.length_append,C4,hlen];omega⟩
    rcases hcond with c | ⟨c1,c2,c3⟩
    all_goals
     simp (disch:=omega) only[go_sem,h1,h2,h3,h4,ho1,ho2,ho3,hp,hrow,bW7,hlen,htk]
     refine ⟨_,?_,i+1,_,by omega,rfl,by omega,rfl,hfin _ _ ?_ (by omega),⟨x,rfl,hx5⟩,rfl⟩
     ·omega
     ·simp[b9]
  ·have hie : i = P8 l.length:=by omega
   have hc1 : ¬ i < 2:=by omega
   have hx0 : x.drop 5 = []:=List.drop_of_length_le (by omega)
   by_cases c2 : i < l.length
   ·have c3 : ¬ i < 4:=by have:=hie;unfold P8 at this;split at this <;> (try split at this) <;> omega
    simp (disch:=omega) only[go_sem,h1,h2,h3,h4,ho1,ho2,ho3,hc1,hok]
    exact hQ _ _ _ (by simp[ai6,h2]) ⟨v,by rw[d8,hx0],by rw[← hie];exact hHS.keep (fun _ _=>by simp[b9]) (by omega)⟩
   ·simp (disch:=omega) only[go_sem,h1,h2,h3,h4,ho1,ho2,ho3,hc1,hok]
    exact hQ _ _ _ (by simp[ai6,h2]) ⟨v,by rw[d8,hx0],by rw[← hie];exact hHS.keep (fun _ _=>by simp[b9]) (by omega)⟩
theorem aK1 (k n : Int) (l : List Rw) (hpart : ∀ i : Nat,i≤1000000→Ok Tryz.prog 40 [aV8 (.mk k n l),.int .i64 i] (j5 (F7 n (B4 l) i))) (X : FuncId→List AV→Option AV)
  (hX : ∀ i : Nat,i≤1000000→X 40 [aV8 (.mk k n l),.int .i64 i] = some (j5 (F7 n (B4 l) i))) (kind : Int) {Q : s8} (a : v6) (o : Ob) (nx st : Nat) (hst : st < nx) (hst2 : 2≤st)
  (h1 : a 1 = .ptr (0,1) (0,1) 0) (h2 : a 2 = .ptr (0,2) (0,2) 0) (h3 : a 5 = .ptr (st,5) (st,5) 0) (h4 : a 6 = .int .i64 0)
  (ho1 : o (0,1) = some (.row ⟨53,1,(0,1),false,true,cRw (.mk k n l)⟩)) (ho2 : ∃ x,o (0,2) = some (.row ⟨28,1,(0,2),false,true,x⟩)∧x.length = 5) (ho3 : o (st,5) = some (.row ⟨28,1,(st,5),false,true,[.int .i64 kind,.int .i64 0,.int .i64 0,.int .i64 0,.nil]⟩))
  (hQ : ∀ a o nx,a 2 = .ptr (0,2) (0,2) 0→(∃ v,o (0,2) = some (.row ⟨28,1,(0,2),false,true,[.int .i64 kind,.int .i64 0,.int .i64 0,.int .i64 0,v]⟩)∧HS 28 5 91 o nx v (P8 l.length) (G0 ((List.range (P8 l.length)).map (F7 n (B4 l)))))→Q .ret a o nx) :
  WP (EX md0 X) noR 10 bW7 (u9 [1,0,1,0,1,1,1,1,1,1,1,1,1,0,1,0,1,0] (Tryz.f19.body.getD .skip)) a o nx (I8 3 (aA9 (EX md0 X) noR 10 bW7 (u9 [1,0,1,0,1,1,1,1,1,1,1,1,1,0,1,1] (Tryz.f19.body.getD .skip)) Q)):=by
 simp only[Tryz.f19,Option.getD_some,u9]
 have hc:=aO1 l.length
 refine o9 (fun m a o nx=>∃ i v,i≤P8 l.length∧m = P8 l.length - i∧st < nx∧a 1 = .ptr (0,1) (0,1) 0∧a 2 = .ptr (0,2) (0,2) 0∧a 5 = .ptr (st,5) (st,5) 0∧a 6 = .int .i64 i∧HS 28 5 91 o nx v i (G0 ((List.range i).map (F7 n (B4 l)))) ∧
  o (0,1) = some (.row ⟨53,1,(0,1),false,true,cRw (.mk k n l)⟩)∧(∃ x,o (0,2) = some (.row ⟨28,1,(0,2),false,true,x⟩)∧x.length = 5)∧o (st,5) = some (.row ⟨28,1,(st,5),false,true,[.int .i64 kind,.int .i64 0,.int .i64 0,.int .i64 0,v]⟩)) (P8 l.length) ?_ ⟨0,.nil,by omega,by omega,by omega,h1,h2,h3,h4,HS.nil,ho1,ho2,ho3⟩ ?_
 ·omega
 ·clear h1 h2 h3 h4 ho1 ho2 ho3
  rintro m a o nx ⟨i,v,hi,rfl,hnx,h1,h2,h3,h4,hHS,ho1,⟨x,ho2,hx5⟩,ho3⟩
  have hok:=hHS.ok
  by_cases hlt : i < P8 l.length
  ·have hcond : i < 2 ∨ (2≤i∧i < l.length∧i < 4):=bl2 hlt
   have hp:=hX i (by omega)
   simp only[aV8,j5,ai0] at hp
   have hsn : (List.range (i+1)).map (F7 n (B4 l)) = (List.range i).map (F7 n (B4 l))++[F7 n (B4 l) i]:=by rw[List.range_succ,List.map_append];rfl
   rcases hHS with ⟨rfl,e2,e3⟩ | ⟨i1,g1,rfl,hi1,hrow,hlen⟩
   ·rcases hcond with c | ⟨c1,c2,c3⟩
    ·simp (disch:=omega) only[go_sem,h1,h2,h3,h4,ho1,ho2,ho3,hp,bW7]
     refine ⟨_,?_,i+1,_,by omega,rfl,by omega,rfl,?_,⟨x,rfl,hx5⟩,rfl⟩
     ·omega
     ·rw[hsn,W1,A5,List.map_eq_nil_iff.2 (List.length_eq_zero_iff.1 (by rw[List.length_range];exact e2)),r8]
      exact .inr ⟨nx+1,_,by rw[e2],by omega,by simp[b9],by rw[List.nil_append,C4,e2]⟩
    ·omega
   ·obtain ⟨cs,hcs⟩ : ∃ cs,cs = G0 ((List.range i).map (F7 n (B4 l))):=⟨_,rfl⟩
    rw[← hcs] at hrow hlen
    have htk : cs.take (i * 5) = cs:=j7 hlen
    have hfin : ∀ o' nx',o' (i1,91) = some (.row ⟨28,5,(nx+1,91),false,true,cs++cNd (F7 n (B4 l) i)⟩)→i1 < nx'→HS 28 5 91 o' nx' (.ref (i1,91) (nx+1,91) 0 (i+1)) (i+1) (G0 ((List.range (i+1)).map (F7 n (B4 l)))):=by
     intro o' nx' h h'
     rw[hsn,W1,A5,← hcs]
     exact .inr ⟨i1,_,rfl,h',h,by rw[List.length_append,C4,hlen];omega⟩
    rcases hcond with c | ⟨c1,c2,c3⟩
    all_goals
     simp (disch:=omega) only[go_sem,h1,h2,h3,h4,ho1,ho2,ho3,hp,hrow,bW7,hlen,htk]
     refine ⟨_,?_,i+1,_,by omega,rfl,by omega,rfl,hfin _ _ ?_ (by omega),⟨x,rfl,hx5⟩,rfl⟩
     ·omega
     ·simp[b9]
  ·have hie : i = P8 l.length:=by omega
   have hc1 : ¬ i < 2:=by omega
   have hx0 : x.drop 5 = []:=List.drop_of_length_le (by omega)
   by_cases c2 : i < l.length
   ·have c3 : ¬ i < 4:=by have:=hie;unfold P8 at this;split at this <;> (try split at this) <;> omega
    simp (disch:=omega) only[go_sem,h1,h2,h3,h4,ho1,ho2,ho3,hc1,hok]
    exact hQ _ _ _ (by simp[ai6,h2]) ⟨v,by rw[d8,hx0],by rw[← hie];exact hHS.keep (fun _ _=>by simp[b9]) (by omega)⟩
   ·simp (disch:=omega) only[go_sem,h1,h2,h3,h4,ho1,ho2,ho3,hc1,hok]
    exact hQ _ _ _ (by simp[ai6,h2]) ⟨v,by rw[d8,hx0],by rw[← hie];exact hHS.keep (fun _ _=>by simp[b9]) (by omega)⟩
set_option maxRecDepth 20000
def cx9 (k n : Int) (l : List Rw) (args : List AV) (r : AV) : Prop := ∃ i : Nat,i≤1000000∧args = [aV8 (.mk k n l),.int .i64 i]∧r = j5 (F7 n (B4 l) i)
theorem cb6 (k n l) : N2 (cx9 k n l) := by
 rintro args r r' ⟨i,_,rfl,rfl⟩ ⟨j,_,h,rfl⟩
 simp only[List.cons.injEq,AV.int.injEq,and_true,true_and] at h
 rw[Int.ofNat_inj.1 h]
theorem cb7 (X) : d9 (EX md0 X) bW7 10 Tryz.f19 = true := by kernel_rfl
theorem cb8 (k n : Int) (l : List Rw) (hpart : ∀ i : Nat,i≤1000000→Ok Tryz.prog 40 [aV8 (.mk k n l),.int .i64 i] (j5 (F7 n (B4 l) i))) :
  Ok Tryz.prog 19 [aV8 (.mk k n l)] (j5 (N7 k n (B4 l))):=by
 refine m7 (E:=EX md0 (t7 [(40,D9 (cx9 k n l)),(39,D9 RW)])) (cr:=noR) (l8 (l8 (t6 _) (n8 aJ9)) (n8 (fun args r h=>by obtain ⟨i,hi,rfl,rfl⟩:=h;exact hpart i hi))) (q7 _) mixed (k:=10) Tryz.func19 (cb7 _) rfl ?_
 obtain ⟨X,hX⟩ : ∃ X,X = t7 [(40,D9 (cx9 k n l)),(39,D9 RW)]:=⟨_,rfl⟩
 have hp : ∀ j : Nat,j≤1000000→X 40 [aV8 (.mk k n l),.int .i64 j] = some (j5 (F7 n (B4 l) j)):=fun j hj=>by rw[hX];exact o8 (cb6 k n l) ⟨j,hj,rfl,rfl⟩
 have hwi : ∀ a m : Int,0 < m→m≤1000000→X 39 [.int .i64 a,.int .i64 m] = some (.int .i64 (a % m)):=fun a m h1 h2=>by rw[hX];exact cx2 h1 h2
 rw[← hX]
 clear hX
 simp only[Tryz.f19,Option.getD_some]
 have hk0:=Int.emod_nonneg k (show (14 : Int) ≠ 0 by decide)
 have hk1:=Int.emod_lt_of_pos k (show (0 : Int) < 14 by decide)
 have h31:=Int.emod_nonneg n (show (31 : Int) ≠ 0 by decide)
 have h31':=Int.emod_lt_of_pos n (show (0 : Int) < 31 by decide)
 have hp0 : X 40 [.agg [.int .i64 k,.int .i64 n,.sl l.length (aV6 l)],.int .i64 0] = some (.agg (cNd (F7 n (B4 l) 0))):=by
  have:=hp 0 (by omega)
  rw[aV8,j5,ai0] at this
  exact this
 have hk : k % 14 = 0 ∨ k % 14 = 1 ∨ k % 14 = 2 ∨ k % 14 = 3 ∨ k % 14 = 4 ∨ k % 14 = 5 ∨ k % 14 = 6 ∨ k % 14 = 7 ∨ k % 14 = 8 ∨ k % 14 = 9 ∨ k % 14 = 10 ∨ k % 14 = 11 ∨ k % 14 = 12 ∨ k % 14 = 13:=by omega
 rcases hk with e | e | e | e | e | e | e | e | e | e | e | e | e | e
 ·simp (disch:=omega) only[go_sem,hwi,e,N7]
  simp only[j5,n7,bG4,slN,r8,List.length_nil]
 ·simp (disch:=omega) only[go_sem,hwi,e,N7]
  simp only[j5,n7,bG4,slN,r8,List.length_nil]
 ·simp (disch:=omega) only[go_sem,hwi,e,N7]
  simp only[j5,n7,bG4,slN,r8,List.length_nil]
 ·simp (disch:=omega) only[go_sem,hwi,e,N7]
  simp only[j5,n7,bG4,slN,r8,List.length_nil]
 ·have h3 : n % 3 = 0 ∨ n % 3 = 1 ∨ n % 3 = 2:=by omega
  rcases h3 with e3 | e3 | e3
  all_goals
   simp (disch:=omega) only[go_sem,hwi,e,e3,N7]
   simp only[j5,n7,slN,r8,List.length_nil]
 ·simp (disch:=omega) only[go_sem,hwi,e,N7]
  refine aB8 k n l hpart X hp 4 _ _ _ _ (by omega) (by omega) rfl rfl rfl rfl rfl ⟨_,rfl,rfl⟩ rfl ?_
  rintro a o nx h2 ⟨v,ho2,hHS⟩
  simp (disch:=omega) only[go_sem,h2,ho2]
  rw[hHS.view,j5,n7,slN,List.length_map,List.length_range,G3,Z2]
 ·simp (disch:=omega) only[go_sem,hwi,e,N7]
  refine aB8 k n l hpart X hp 4 _ _ _ _ (by omega) (by omega) rfl rfl rfl rfl rfl ⟨_,rfl,rfl⟩ rfl ?_
  rintro a o nx h2 ⟨v,ho2,hHS⟩
  simp (disch:=omega) only[go_sem,h2,ho2]
  rw[hHS.view,j5,n7,slN,List.length_map,List.length_range,G3,Z2]
 ·simp (disch:=omega) only[go_sem,hwi,e,N7]
  refine aB8 k n l hpart X hp 4 _ _ _ _ (by omega) (by omega) rfl rfl rfl rfl rfl ⟨_,rfl,rfl⟩ rfl ?_
  rintro a o nx h2 ⟨v,ho2,hHS⟩
  simp (disch:=omega) only[go_sem,h2,ho2]
  rw[hHS.view,j5,n7,slN,List.length_map,List.length_range,G3,Z2]
 ·simp (disch:=omega) only[go_sem,hwi,e,N7]
  refine aK1 k n l hpart X hp 5 _ _ _ _ (by omega) (by omega) rfl rfl rfl rfl rfl ⟨_,rfl,rfl⟩ rfl ?_
  rintro a o nx h2 ⟨v,ho2,hHS⟩
  simp (disch:=omega) only[go_sem,h2,ho2]
  rw[hHS.view,j5,n7,slN,List.length_map,List.length_range,G3,Z2]
 ·simp (disch:=omega) only[go_sem,hwi,e,N7]
  refine aK1 k n l hpart X hp 5 _ _ _ _ (by omega) (by omega) rfl rfl rfl rfl rfl ⟨_,rfl,rfl⟩ rfl ?_
  rintro a o nx h2 ⟨v,ho2,hHS⟩
  simp (disch:=omega) only[go_sem,h2,ho2]
  rw[hHS.view,j5,n7,slN,List.length_map,List.length_range,G3,Z2]
 ·simp (disch:=omega) only[go_sem,hwi,e,N7,hp0]
  simp only[j5,n7,slN,A5,List.length_cons,List.length_nil]
 ·simp (disch:=omega) only[go_sem,hwi,e,N7,hp0]
  simp only[j5,n7,slN,A5,List.length_cons,List.length_nil]
 ·simp (disch:=omega) only[go_sem,hwi,e,N7,hp0]
  simp only[j5,n7,slN,A5,List.length_cons,List.length_nil]
 ·have h4:=Int.emod_nonneg n (show (4 : Int) ≠ 0 by decide)
  have h4':=Int.emod_lt_of_pos n (show (0 : Int) < 4 by decide)
  have h5:=Int.emod_nonneg (IntKind.i64.wrap (n.tdiv 4)) (show (3 : Int) ≠ 0 by decide)
  have h5':=Int.emod_lt_of_pos (IntKind.i64.wrap (n.tdiv 4)) (show (0 : Int) < 3 by decide)
  simp (disch:=omega) only[go_sem,hwi,e,N7,hp0,bW7]
  simp only[j5,n7,slN,A5,List.length_cons,List.length_nil]
theorem bl3 : ∀ r : Rw,Ok Tryz.prog 19 [aV8 r] (j5 (am2 r))
 | .mk k n l=>by
  rw[am2]
  refine cb8 k n l (fun i hi=>cx8 k n l (fun j hj=>?_) i (by omega))
  have : SizeOf.sizeOf (l.getD j default) < 1+SizeOf.sizeOf k+SizeOf.sizeOf n+SizeOf.sizeOf l:=by
   rw[List.getD_eq_getElem?_getD,List.getElem?_eq_getElem hj,Option.getD_some]
   have:=List.sizeOf_lt_of_mem (List.getElem_mem hj)
   omega
  exact bl3 (l.getD j default)
termination_by r=>SizeOf.sizeOf r
decreasing_by
 simp only[Rw.mk.sizeOf_spec];exact this
set_option maxRecDepth 20000
def cV6 : Rw→List Rw
 | .mk _ _ l=>l
def U6 (f : List Rw→Int) (n : Int) (r : Rw) : Int := if n≤14 then n+1+f (cV6 r) else n
def szD : Nat→List Rw→Int
 | 0,_=>1000
 | d+1,l=>l.foldl (U6 (szD d)) 0
theorem bl4 {f : List Rw→Int} {n : Int} (h : ¬ n≤14) : ∀ l : List Rw,l.foldl (U6 f) n = n
 | []=>rfl
 | r :: l=>by rw[List.foldl_cons,U6,if_neg h];exact bl4 h l
theorem cy0 : ∀ (d : Nat) (l : List Rw),0≤szD d l∧szD d l≤1000+15 * d
 | 0,l=>by rw[szD];omega
 | d+1,l=>by
  rw[szD]
  have : ∀ (l : List Rw) (n : Int),0≤n→n≤1000+15 * (d+1)→0≤l.foldl (U6 (szD d)) n∧l.foldl (U6 (szD d)) n≤1000+15 * (d+1):=by
   intro l
   induction l with
   | nil=>exact fun n h1 h2=>⟨h1,h2⟩
   | cons r l ih =>
    intro n h1 h2
    rw[List.foldl_cons]
    have:=cy0 d (cV6 r)
    refine ih _ ?_ ?_ <;> unfold U6 <;> split <;> omega
  have:=this l 0 (by omega) (by omega)
  omega
def bG7 (d : Nat) (args : List AV) (r : AV) : Prop := ∃ l,args = [slR l,.int .i64 (7 - d)]∧r = .int .i64 (szD d l)
theorem bl5 (d) : N2 (bG7 d) := by
 rintro args r r' ⟨l,rfl,rfl⟩ ⟨l',h,rfl⟩
 simp only[List.cons.injEq,AV.sl.injEq,and_true] at h
 rw[am0 h.2]
theorem bl6 (X) : d9 (EX md0 X) (fun _=>none) 2 Tryz.f18 = true := by kernel_rfl
theorem bG8 : ∀ (d : Nat) (l : List Rw),d≤7→Ok Tryz.prog 18 [slR l,.int .i64 (7 - d)] (.int .i64 (szD d l))
 | 0,l,_=>by
  refine m7 (E:=EX md0 (fun _ _=>none)) (cr:=noR) (z8 _) (q7 _) mixed (k:=20) Tryz.func18 (bl6 _) rfl ?_
  simp only[Tryz.f18,Option.getD_some,szD]
  simp (disch:=omega) only[go_sem]
 | d+1,l,hd=>by
  refine m7 (E:=EX md0 (t7 [(18,D9 (bG7 d))])) (cr:=noR) (l8 (t6 _) (n8 (fun args r h=>by obtain ⟨l,rfl,rfl⟩:=h;exact bG8 d l (by omega)))) (q7 _) mixed (k:=20) Tryz.func18 (bl6 _) rfl ?_
  have hX : ∀ l : List Rw,t7 [(18,D9 (bG7 d))] 18 [.sl l.length (aV6 l),.int .i64 (7 - d)] = some (.int .i64 (szD d l)):=fun l=>o8 (bl5 d) ⟨l,rfl,rfl⟩
  simp only[Tryz.f18,Option.getD_some]
  have h7 : ¬ ((7 : Int) - (d+1 : Nat) > 6):=by omega
  simp (disch:=omega) only[go_sem,h7]
  have hend : ∀ i,l.foldl (U6 (szD d)) 0 = (l.drop i).foldl (U6 (szD d)) ((l.take i).foldl (U6 (szD d)) 0):=fun i=>by rw[← List.foldl_append,List.take_append_drop]
  refine o9 (fun m a o nx=>∃ (i : Nat) (s : Int),i≤l.length∧m = (15 - s).toNat∧a 0 = slR l∧a 1 = .int .i64 (7 - (d+1 : Nat))∧a 5 = .int .i64 s∧a 6 = .int .i64 i∧s = (l.take i).foldl (U6 (szD d)) 0∧(i : Int)≤s∧s≤2000) 15 (by omega) ⟨0,0,by omega,rfl,by simp (disch:=omega) only[go_sem],by simp (disch:=omega) only[go_sem],by simp (disch:=omega) only[go_sem],by simp (disch:=omega) only[go_sem],rfl,by omega,by omega⟩ ?_
  rintro m a o nx ⟨i,s,hi,rfl,h0,h1,h5,h6,hs,hs0,hs1⟩
  have hi6 : (7 : Int) - (d+1 : Nat)+1 = 7 - d:=by omega
  by_cases hlt : i < l.length
  ·have hat:=bG3 hlt
   have htk : (l.take (i+1)).foldl (U6 (szD d)) 0 = U6 (szD d) s (l.getD i default):=by rw[List.take_succ_eq_append_getElem hlt,List.foldl_append,← hs,List.getD_eq_getElem?_getD,List.getElem?_eq_getElem hlt];rfl
   obtain ⟨k,n,ch,hch⟩ : ∃ k n ch,l.getD i default = .mk k n ch:=by cases l.getD i default with | mk k n ch=>exact ⟨_,_,_,rfl⟩
   have hsz:=cy0 d ch
   by_cases h14 : s≤14
   ·rw[hch,U6,if_pos h14] at htk
    rw[hch] at hat
    have hx:=hX ch
    simp (disch:=omega) only[go_sem,h0,h1,h5,h6,hat,hx,hi6]
    exact ⟨_,by omega,i+1,_,by omega,rfl,rfl,rfl,by rw[htk];rfl,by omega,by omega⟩
   ·simp (disch:=omega) only[go_sem,h0,h1,h5,h6]
    rw[szD,hend i,← hs,bl4 h14]
  ·simp (disch:=omega) only[go_sem,h0,h1,h5,h6]
   rw[szD,hend i,← hs,List.drop_of_length_le (by omega)]
   rfl
def cq2 (l : List Rw) : Bool := decide (szD 7 l≤14)
theorem cb9 (X) : d9 (EX md0 X) (fun _=>none) 1 Tryz.f5 = true := by kernel_rfl
theorem cy1 (l : List Rw) : Ok Tryz.prog 5 [slR l] (.bool (cq2 l)) := by
 refine m7 (E:=EX md0 (t7 [(18,D9 (bG7 7))])) (cr:=noR) (l8 (t6 _) (n8 (fun args r h=>by obtain ⟨l,rfl,rfl⟩:=h;exact bG8 7 l (by omega)))) (q7 _) mixed (k:=0) Tryz.func5 (cb9 _) rfl ?_
 have hX : t7 [(18,D9 (bG7 7))] 18 [.sl l.length (aV6 l),.int .i64 0] = some (.int .i64 (szD 7 l)):=o8 (bl5 7) ⟨l,rfl,rfl⟩
 simp only[Tryz.f5,Option.getD_some]
 simp (disch:=omega) only[go_sem,hX]
 rfl
def ao7 (l : List Rw) : Nd := match l with | []=>.mk 1 1 0 0 [] | r :: _=>am2 r
def bG9 (args : List AV) (r : AV) : Prop := ∃ x,args = [aV8 x]∧r = j5 (am2 x)
theorem bH0 : N2 bG9 := by
 rintro args r r' ⟨i,rfl,rfl⟩ ⟨j,h,rfl⟩
 simp only[List.cons.injEq,AV.agg.injEq,and_true] at h
 rw[be6 h]
theorem cy2 (X) : d9 (EX md0 X) (fun _=>none) 1 Tryz.f6 = true := by kernel_rfl
theorem cV7 (l : List Rw) : Ok Tryz.prog 6 [slR l] (j5 (ao7 l)) := by
 refine m7 (E:=EX md0 (t7 [(19,D9 bG9)])) (cr:=noR) (l8 (t6 _) (n8 (fun args r h=>by obtain ⟨l,rfl,rfl⟩:=h;exact bl3 l))) (q7 _) mixed (k:=0) Tryz.func6 (cy2 _) rfl ?_
 simp only[Tryz.f6,Option.getD_some]
 cases l with
 | nil =>
  simp (disch:=omega) only[go_sem]
  simp only[j5,ao7,n7,slN,r8,List.length_nil]
 | cons r l =>
  have hX : t7 [(19,D9 bG9)] 19 [.agg (cRw r)] = some (j5 (am2 r)):=o8 bH0 ⟨r,rfl,rfl⟩
  have hat:=U5 r l
  simp (disch:=omega) only[go_sem,hX,hat]
  rfl
set_option maxRecDepth 20000
structure BS where
 n : Nat
 s : List (Int × Int × Int)
 f : List (Int × Int)
abbrev BF := BS→(Int × Int) × BS
def BS.state (b : BS) : BS := { b with n := b.n+1 }
def BS.free (b : BS) (x y : Int) : BS := { b with f := b.f++[(x,y)] }
def BS.frees (b : BS) (l : List (Int × Int)) : BS := { b with f := b.f++l }
def BS.step (b : BS) (x y v : Int) : BS := { b with s := b.s++[(x,y,v)] }
def j6 : List BF→BS→List (Int × Int)→List (Int × Int) × BS
 | [],b,out=>(out,b)
 | f :: fs,b,out=>if b.n > 1000 then ([],b) else j6 fs (f b).2 (out++[(f b).1])
def aa8 (f : BF) (around back : Bool) (b : BS) : (Int × Int) × BS :=
 let r:=f b.state
 ((b.n,r.2.n),r.2.state.frees ([((b.n : Int),r.1.1)]++(if around then [((b.n : Int),(r.2.n : Int))] else [])++(if back then [(r.1.2,r.1.1)] else [])++[(r.1.2,(r.2.n : Int))]))
def Q8 : List (Int × Int)→List (Int × Int)
 | p :: q :: l=>(p.2,q.1) :: Q8 (q :: l)
 | _=>[]
def ab5 (fs : List BF) (b : BS) : (Int × Int) × BS :=
 let r:=j6 fs b []
 if r.2.n > 1000 ∨ r.1 = [] then ((0,0),r.2) else (((r.1.headD (0,0)).1,(r.1.getLastD (0,0)).2),r.2.frees (Q8 r.1))
def ad4 (fs : List BF) (b : BS) : (Int × Int) × BS :=
 let r:=j6 fs b.state []
 ((b.n,r.2.n),r.2.state.frees (r.1.flatMap fun p=>[((b.n : Int),p.1),(p.2,(r.2.n : Int))]))
def x7 (lo : Int) (e : Int) : Nat→List (Int × Int)→List (Int × Int)
 | _,[]=>[]
 | _,[p]=>[(p.2,e)]
 | i,p :: q :: l=>(if (i : Int)+1 ≥ lo then [(p.2,e)] else [])++(p.2,q.1) :: x7 lo e (i+1) (q :: l)
def O2 (n : Int) : List (Int × Int)→List (Int × Int)
 | []=>[]
 | p :: _=>[(n,p.1)]
def C8 (lo : Int) (hi : Nat) (f : BF) (b : BS) : (Int × Int) × BS :=
 let r:=j6 (List.replicate hi f) b.state []
 if r.2.state.n > 1000 then ((b.n,r.2.n),r.2.state)
 else ((b.n,r.2.n),r.2.state.frees (O2 b.n r.1++x7 lo r.2.n 0 r.1++(if lo = 0 then [((b.n : Int),(r.2.n : Int))] else [])))
def aq4 (kind set : Int) (b : BS) : (Int × Int) × BS :=
 ((b.n,b.n+1),if kind = 1 then b.state.state.step b.n (b.n+1) set else if kind = 3 then b.state.state.free b.n (b.n+1) else b.state.state)
def aB9 (kind set lo hi : Int) (fs : List BF) : BF :=
 if kind = 4 then ab5 fs
 else if kind = 5 then ad4 fs
 else if kind = 6 then aa8 (fs.headD (fun b=>((0,0),b))) true true
 else if kind = 7 then aa8 (fs.headD (fun b=>((0,0),b))) false true
 else if kind = 8 then aa8 (fs.headD (fun b=>((0,0),b))) true false
 else if kind = 9 then C8 lo hi.toNat (fs.headD (fun b=>((0,0),b)))
 else aq4 kind set
mutual
def d7 : Nd→BF
 | .mk kind set lo hi l=>aB9 kind set lo hi (m4 l)
def m4 : List Nd→List BF
 | []=>[]
 | x :: l=>d7 x :: m4 l
end
structure BRow (o : Ob) (nx : Nat) (t : Nat) (b : BS) (vS vF : AV) : Prop where
 lt : t < nx
 row : o (t,8) = some (.row ⟨106,1,(t,8),false,true,[.int .i64 b.n,.int .i64 0,.int .i64 0,vS,vF]⟩)
 s : HS 117 3 139 o nx vS b.s.length (cS b.s)
 f : HS 164 2 16 o nx vF b.f.length (cP b.f)
def BAt (o : Ob) (nx : Nat) (t : Nat) (b : BS) : Prop := ∃ vS vF,BRow o nx t b vS vF
def BKeep (t : Nat) (o : Ob) (nx : Nat) (o' : Ob) : Prop := ∀ i j,i < nx→(j = 8→i ≠ t)→j ≠ 139→j ≠ 16→o' (i,j) = o (i,j)
theorem BKeep.refl (t o nx) : BKeep t o nx o := fun _ _ _ _ _ _=>rfl
theorem BKeep.trans {t o nx o' nx' o''} (h1 : BKeep t o nx o') (h2 : BKeep t o' nx' o'') (h : nx≤nx') : BKeep t o nx o'' := fun i j a b c d=>by rw[h2 i j (by omega) b c d,h1 i j a b c d]
def BTo (t : Nat) (b' : BS) (H H' : AH) : Prop := H.nx≤H'.nx∧BAt H'.o H'.nx t b'∧BKeep t H.o H.nx H'.o
abbrev bp (t : Nat) : AV := .ptr (t,8) (t,8) 0
theorem bH1 {t : Nat} {o : Ob} {nx : Nat} {x : AObj} : BKeep t o nx (upd o (t,8) x) := fun i j hi h1 h2 h3=>G9 _ _ _ _ (fun e=>by injection e with e1 e2;exact h1 e2 e1)
def ab4 (args : List AV) (H : AH) (v : AV) (H' : AH) : Prop := OkR Tryz.prog 76 args H v H'∧∀ t b,args = [bp t]→BAt H.o H.nx t b→v = .int .i64 b.n∧BTo t b.state H H'
theorem bu5 (X) : d9 (EX md0 X) (fun _=>none) 1 Tryz.f76 = true := by kernel_rfl
theorem BRow.same {o nx t b vS vF} (h : BRow o nx t b vS vF) {b' vS' vF'} (h' : BRow o nx t b' vS' vF') : b.n = b'.n∧vS = vS'∧vF = vF' := by
 have:=h.row.symm.trans h'.row
 simp only[Option.some.injEq,AObj.row.injEq,Row.mk.injEq,List.cons.injEq,AV.int.injEq,and_true,true_and] at this
 exact ⟨by omega,this.2⟩
theorem HS.same {e sz D o nx v n cs n' cs'} (h : HS e sz D o nx v n cs) (h' : HS e sz D o nx v n' cs') : cs = cs' := by
 rcases h with ⟨rfl,rfl,rfl⟩ | ⟨i,g,rfl,_,h3,_⟩
 ·rcases h' with ⟨_,_,rfl⟩ | ⟨_,_,h,_⟩
  ·rfl
  ·cases h
 ·rcases h' with ⟨h,_⟩ | ⟨_,_,h,_,h3',_⟩
  ·cases h
  ·injection h with h1 h2
   rw[← h1,← h2,h3] at h3'
   simp only[Option.some.injEq,AObj.row.injEq,Row.mk.injEq,true_and] at h3'
   exact h3'
theorem BAt.same {o nx t b} (h : BAt o nx t b) {b'} (h' : BAt o nx t b') : b = b' := by
 obtain ⟨vS,vF,h⟩:=h
 obtain ⟨vS',vF',h'⟩:=h'
 obtain ⟨e1,rfl,rfl⟩:=h.same h'
 have e2:=aJ8 (h.s.same h'.s)
 have e3:=au2 (h.f.same h'.f)
 cases b;cases b'
 simp only at e1 e2 e3
 rw[e1,e2,e3]
theorem bH2 {t : Nat} {o : Ob} {nx : Nat} {b : BS} (h : BAt o nx t b) (hn : b.n≤10000000) : ∃ v H',ab4 [bp t] ⟨o,nx⟩ v H' := by
 have hh:=h
 obtain ⟨vS,vF,h⟩:=h
 obtain ⟨v,H',h1,h2⟩:=D6 (E:=EX md0 (fun _ _=>none)) (cr:=noR) (z8 _) (q7 _) mixed (k:=0) (args:=[bp t]) (o:=o) (nx:=nx) (Post:=fun v o' nx'=>v = .int .i64 b.n∧BTo t b.state ⟨o,nx⟩ ⟨o',nx'⟩) Tryz.func76 (bu5 _) rfl (by
  have h1:=h.lt
  have h2:=h.row
  have h3:=h.s.ok
  have h4:=h.f.ok
  simp only[Tryz.f76,Option.getD_some]
  simp (disch:=omega) only[go_sem,h2,h3,h4]
  refine ⟨by rw[Int.add_sub_cancel],by show nx≤nx+1+1+1;omega,⟨vS,vF,⟨by show t < nx+1+1+1;omega,?_,h.s.keep (fun _ _=>by simp[b9]) (by show nx≤nx+1+1+1;omega),h.f.keep (fun _ _=>by simp[b9]) (by show nx≤nx+1+1+1;omega)⟩⟩,bH1⟩
  exact d8 _ _ _)
 refine ⟨v,H',h1,fun t' b' e hb=>?_⟩
 simp only[List.cons.injEq,AV.ptr.injEq,Prod.mk.injEq,and_true] at e
 obtain rfl:=e.1
 rw[← hh.same hb]
 exact h2
theorem K4 {t : Nat} {o : Ob} {nx : Nat} {b : BS} {K : AV × AH→Prop} (h : BAt o nx t b) (hn : b.n≤10000000) (hK : ∀ o' nx',nx≤nx'→BAt o' nx' t b.state→BKeep t o nx o'→K (.int .i64 b.n,⟨o',nx'⟩)) :
  wO (Option.map (fun p=>t8 false p.1 p.2) (B1 ab4 [bp t] ⟨o,nx⟩)) K:=by
 refine F6 (bH2 h hn) fun v H' hr=>?_
 obtain ⟨rfl,h1,h2,h3⟩:=hr.2 t b rfl h
 exact hK H'.o H'.nx h1 h2 h3
def ad5 (args : List AV) (H : AH) (v : AV) (H' : AH) : Prop := OkR Tryz.prog 52 args H v H'∧∀ t b,args = [bp t]→BAt H.o H.nx t b→v = .bool (decide (1000 < (b.n : Int)))∧BTo t b H H'
theorem bH3 (X) : d9 (EX md0 X) (fun _=>none) 1 Tryz.f52 = true := by kernel_rfl
theorem cc0 {t : Nat} {o : Ob} {nx : Nat} {b : BS} (h : BAt o nx t b) : ∃ v H',ad5 [bp t] ⟨o,nx⟩ v H' := by
 have hh:=h
 obtain ⟨vS,vF,h⟩:=h
 obtain ⟨v,H',h1,h2⟩:=D6 (E:=EX md0 (fun _ _=>none)) (cr:=noR) (z8 _) (q7 _) mixed (k:=0) (args:=[bp t]) (o:=o) (nx:=nx) (Post:=fun v o' nx'=>v = .bool (decide (1000 < (b.n : Int)))∧BTo t b ⟨o,nx⟩ ⟨o',nx'⟩) Tryz.func52 (bH3 _) rfl (by
  have h2:=h.row
  simp only[Tryz.f52,Option.getD_some]
  simp (disch:=omega) only[go_sem,h2]
  exact ⟨by show nx≤nx+1+1;omega,⟨vS,vF,⟨by have:=h.lt;show t < nx+1+1;omega,h2,h.s.keep (fun _ _=>rfl) (by show nx≤nx+1+1;omega),h.f.keep (fun _ _=>rfl) (by show nx≤nx+1+1;omega)⟩⟩,BKeep.refl _ _ _⟩)
 refine ⟨v,H',h1,fun t' b' e hb=>?_⟩
 simp only[List.cons.injEq,AV.ptr.injEq,Prod.mk.injEq,and_true] at e
 obtain rfl:=e.1
 rw[← hh.same hb]
 exact h2
theorem ad6 {t : Nat} {o : Ob} {nx : Nat} {b : BS} {K : AV × AH→Prop} (h : BAt o nx t b) (hK : ∀ o' nx',nx≤nx'→BAt o' nx' t b→BKeep t o nx o'→K (.bool (decide (1000 < (b.n : Int))),⟨o',nx'⟩)) :
  wO (Option.map (fun p=>t8 false p.1 p.2) (B1 ad5 [bp t] ⟨o,nx⟩)) K:=by
 refine F6 (cc0 h) fun v H' hr=>?_
 obtain ⟨rfl,h1,h2,h3⟩:=hr.2 t b rfl h
 exact hK H'.o H'.nx h1 h2 h3
def ad7 (args : List AV) (H : AH) (v : AV) (H' : AH) : Prop := OkR Tryz.prog 75 args H v H'∧∀ t b x y,args = [bp t,.int .i64 x,.int .i64 y]→BAt H.o H.nx t b→v = .tup []∧BTo t (b.free x y) H H'
theorem bH4 (X) : d9 (EX md0 X) (fun _=>none) 3 Tryz.f75 = true := by kernel_rfl
theorem cc1 {t : Nat} {o : Ob} {nx : Nat} {b : BS} (h : BAt o nx t b) (x y : Int) (hn : b.f.length≤100000000) : ∃ v H',ad7 [bp t,.int .i64 x,.int .i64 y] ⟨o,nx⟩ v H' := by
 have hh:=h
 obtain ⟨vS,vF,h⟩:=h
 obtain ⟨v,H',h1,h2⟩:=D6 (E:=EX md0 (fun _ _=>none)) (cr:=noR) (z8 _) (q7 _) mixed (k:=0) (args:=[bp t,.int .i64 x,.int .i64 y]) (o:=o) (nx:=nx) (Post:=fun v o' nx'=>v = .tup []∧BTo t (b.free x y) ⟨o,nx⟩ ⟨o',nx'⟩) Tryz.func75 (bH4 _) rfl (by
  have h0:=h.lt
  have h2:=h.row
  have h3:=h.s.ok
  have h4:=h.f.ok
  have hs:=h.s
  simp only[Tryz.f75,Option.getD_some]
  rcases h.f with ⟨rfl,e2,e3⟩ | ⟨i1,g1,rfl,hi1,hrow,hlen⟩
  ·simp (disch:=omega) only[go_sem,h2,h3,h4]
   refine ⟨rfl,by show nx≤nx+1;omega,⟨vS,_,⟨by show t < nx+1;omega,d8 _ _ _,hs.keep (fun _ _=>by simp[b9]) (by show nx≤nx+1;omega),.inr ⟨nx,(nx,16),by simp[BS.free,e2],by show _ < nx+1;omega,?_,?_⟩⟩⟩,?_⟩
   ·simp[b9,BS.free,cP,List.length_eq_zero_iff.1 e2]
   ·simp[BS.free,L4]
   ·intro i j hi a1 a2 a3
    have : i ≠ nx:=by have : i < nx:=hi;omega
    simp (disch:=omega) [b9,this,a3,a2]
    intro hj
    have:=a1 hj
    simp[this,hj]
  ·simp (disch:=omega) only[go_sem,h2,h3,h4,hrow]
   refine ⟨rfl,by show nx≤nx+1;omega,⟨vS,_,⟨by show t < nx+1;omega,d8 _ _ _,hs.keep (fun _ _=>by simp[b9]) (by show nx≤nx+1;omega),.inr ⟨i1,(nx,16),by simp[BS.free],by show _ < nx+1;omega,?_,?_⟩⟩⟩,?_⟩
   ·simp[b9,BS.free,cP]
   ·simp[BS.free,L4]
   ·intro i j hi a1 a2 a3
    have : i ≠ nx:=by have : i < nx:=hi;omega
    simp (disch:=omega) [b9,this,a3,a2]
    intro hj
    have:=a1 hj
    simp[this,hj])
 refine ⟨v,H',h1,fun t' b' x' y' e hb=>?_⟩
 simp only[List.cons.injEq,AV.ptr.injEq,Prod.mk.injEq,AV.int.injEq,and_true,true_and] at e
 obtain ⟨⟨rfl,_⟩,rfl,rfl⟩:=e
 rw[← hh.same hb]
 exact h2
theorem I0 {t : Nat} {o : Ob} {nx : Nat} {b : BS} {K : AV × AH→Prop} (h : BAt o nx t b) (x y : Int) (hn : b.f.length≤100000000) (hK : ∀ o' nx',nx≤nx'→BAt o' nx' t (b.free x y)→BKeep t o nx o'→K (.tup [],⟨o',nx'⟩)) :
  wO (Option.map (fun p=>t8 false p.1 p.2) (B1 ad7 [bp t,.int .i64 x,.int .i64 y] ⟨o,nx⟩)) K:=by
 refine F6 (cc1 h x y hn) fun v H' hr=>?_
 obtain ⟨rfl,h1,h2,h3⟩:=hr.2 t b x y rfl h
 exact hK H'.o H'.nx h1 h2 h3
set_option maxRecDepth 20000
mutual
def aG6 : Nd→Bool
 | .mk _ _ _ _ l=>decide (l.length≤4) && ad8 l
def ad8 : List Nd→Bool
 | []=>true
 | x :: l=>aG6 x && ad8 l
end
mutual
def dN : Nd→Nat
 | .mk _ _ _ _ l=>dNs l+1
def dNs : List Nd→Nat
 | []=>0
 | x :: l=>max (dN x) (dNs l)
end
mutual
theorem aV9 : ∀ n : Nd,aG6 n = true→aq3 n = true
 | .mk k s lo hi l,h=>by
  rw[aG6,Bool.and_eq_true,decide_eq_true_eq] at h
  rw[aq3,Bool.and_eq_true,decide_eq_true_eq]
  exact ⟨by omega,aK2 l h.2⟩
theorem aK2 : ∀ l : List Nd,ad8 l = true→am3 l = true
 | [],_=>by rw[am3]
 | x :: l,h=>by
  rw[ad8,Bool.and_eq_true] at h
  rw[am3,aV9 x h.1,aK2 l h.2];rfl
end
def okR (h : Nat) (x : Nd) : Prop := A4 x = true∧aG6 x = true∧dN x≤h
theorem okR.mono {h h' x} (hx : okR h x) (hh : h≤h') : okR h' x := ⟨hx.1,hx.2.1,Nat.le_trans hx.2.2 hh⟩
theorem bl7 : ∀ (l : List Nd) (h : Nat),(∀ x ∈ l,okR h x)→O1 l = true∧ad8 l = true∧dNs l≤h
 | [],h,_=>⟨by rw[O1],by rw[ad8],by rw[dNs];omega⟩
 | x :: l,h,hl=>by
  obtain ⟨h1,h2,h3⟩:=hl x List.mem_cons_self
  obtain ⟨g1,g2,g3⟩:=bl7 l h (fun y hy=>hl y (List.mem_cons_of_mem _ hy))
  rw[O1,ad8,dNs,h1,h2,g1,g2]
  exact ⟨rfl,rfl,by omega⟩
theorem am4 {k s lo hi : Int} {l : List Nd} {h : Nat} (hh : aj0 k s lo hi l.length = true) (hn : l.length≤4) (hl : ∀ x ∈ l,okR h x) : okR (h+1) (.mk k s lo hi l) := by
 obtain ⟨g1,g2,g3⟩:=bl7 l h hl
 refine ⟨by rw[A4,hh,g1];rfl,by rw[aG6,g2,decide_eq_true hn];rfl,by rw[dN];omega⟩
theorem bl8 (x : Int) : 1≤bG4 x∧bG4 x≤31 := by
 have h1:=Int.emod_nonneg x (show (5 : Int) ≠ 0 by decide)
 have h2:=Int.emod_lt_of_pos x (show (0 : Int) < 5 by decide)
 unfold bG4
 obtain ⟨m,hm⟩ : ∃ m,m = x % 5:=⟨_,rfl⟩
 rw[← hm] at h1 h2 ⊢
 have : m = 0 ∨ m = 1 ∨ m = 2 ∨ m = 3 ∨ m = 4:=by omega
 rcases this with rfl | rfl | rfl | rfl | rfl <;> decide
theorem bl9 {s : Int} (h : 1≤s∧s≤31) : aj0 1 s 0 0 ([] : List Nd).length = true := by
 simp[aj0,Z3,h.1,h.2]
theorem aw4 {s : Int} (h : 1≤s∧s≤31) : okR 1 (.mk 1 s 0 0 []) := am4 (h := 0) (bl9 h) (by simp) (fun x hx=>by cases hx)
theorem aW0 (n : Int) (ls : List Nd) (h : Nat) (h1 : 1≤h) (hl : ∀ x ∈ ls,okR h x) (i : Nat) : okR h (F7 n ls i) := by
 unfold F7
 split
 ·rename_i hi
  rw[List.getD_eq_getElem?_getD,List.getElem?_eq_getElem hi]
  exact hl _ (List.getElem_mem hi)
 ·exact (aw4 (bl8 _)).mono h1
theorem cc2 (n : Int) (ls : List Nd) (h : Nat) (h1 : 1≤h) (hl : ∀ x ∈ ls,okR h x) (k : Nat) : ∀ x ∈ (List.range k).map (F7 n ls),okR h x := by
 intro x hx
 obtain ⟨i,_,rfl⟩:=List.mem_map.1 hx
 exact aW0 n ls h h1 hl i
theorem bu6 (k n : Int) (ls : List Nd) (h : Nat) (h1 : 1≤h) (hl : ∀ x ∈ ls,okR h x) : okR (h+1) (N7 k n ls) := by
 have hm:=aO1 ls.length
 have hp0:=aW0 n ls h h1 hl 0
 have n4 : 0≤n % 4∧n % 4 < 4:=⟨Int.emod_nonneg _ (by decide),Int.emod_lt_of_pos _ (by decide)⟩
 have n3 : 0≤IntKind.i64.wrap (n.tdiv 4) % 3∧IntKind.i64.wrap (n.tdiv 4) % 3 < 3:=⟨Int.emod_nonneg _ (by decide),Int.emod_lt_of_pos _ (by decide)⟩
 have n31 : 0≤n % 31∧n % 31 < 31:=⟨Int.emod_nonneg _ (by decide),Int.emod_lt_of_pos _ (by decide)⟩
 have hlist:=cc2 n ls h h1 hl (P8 ls.length)
 have hlen : ((List.range (P8 ls.length)).map (F7 n ls)).length = P8 ls.length:=by simp
 have one : ∀ x ∈ [F7 n ls 0],okR h x:=fun x hx=>by rw[List.mem_singleton.1 hx];exact hp0
 unfold N7
 repeat' split
 ·exact (aw4 ⟨by omega,by omega⟩).mono (by omega)
 ·exact (aw4 (bl8 _)).mono (by omega)
 ·exact am4 (by simp[aj0,Z3]) (by simp) (fun x hx=>by cases hx)
 ·exact am4 (by simp[aj0,Z3]) (by simp) (fun x hx=>by cases hx)
 ·refine am4 ?_ (by omega) hlist
  rw[hlen];simp[aj0,Z3];omega
 ·refine am4 ?_ (by omega) hlist
  rw[hlen];simp[aj0,Z3];omega
 ·exact am4 (by simp[aj0,Z3]) (by simp) one
 ·exact am4 (by simp[aj0,Z3]) (by simp) one
 ·exact am4 (by simp[aj0,Z3]) (by simp) one
 ·refine am4 ?_ (by simp) one
  simp[aj0,Z3];omega
theorem bm0 {f : List Rw→Int} (hf : ∀ l,0≤f l) : ∀ (l : List Rw) (n : Int),l.foldl (U6 f) n≤14→n≤14∧∀ r ∈ l,f (cV6 r)≤14 ∨ n < 0
 | [],n,h=>⟨h,fun r hr=>by cases hr⟩
 | r :: l,n,h=>by
  rw[List.foldl_cons] at h
  obtain ⟨h1,h2⟩:=bm0 hf l _ h
  have:=hf (cV6 r)
  unfold U6 at h1 h2
  split at h1
  ·rename_i hn
   rw[if_pos hn] at h2
   refine ⟨by omega,fun q hq=>?_⟩
   rcases List.mem_cons.1 hq with rfl | hq
   ·omega
   ·have:=h2 q hq;omega
  ·omega
theorem aC0 : ∀ {l : List Rw} {x : Nd},x ∈ B4 l→∃ r ∈ l,x = am2 r
 | [],x,h=>by rw[B4] at h;cases h
 | r :: l,x,h=>by
  rw[B4] at h
  rcases List.mem_cons.1 h with rfl | h
  ·exact ⟨r,List.mem_cons_self,rfl⟩
  ·obtain ⟨q,hq,e⟩:=aC0 h
   exact ⟨q,List.mem_cons_of_mem _ hq,e⟩
theorem bm1 : ∀ (d : Nat) (l : List Rw),szD d l≤14→∀ r ∈ l,okR (d+1) (am2 r)
 | 0,l,h,_,_=>by rw[szD] at h;omega
 | d+1,l,h,r,hr=>by
  rw[szD] at h
  obtain ⟨_,h2⟩:=bm0 (fun l=>(cy0 d l).1) l 0 h
  have h3 : szD d (cV6 r)≤14:=by have:=h2 r hr;omega
  obtain ⟨k,n,ch⟩:=r
  have ih:=bm1 d ch h3
  rw[am2]
  exact bu6 k n _ (d+1) (by omega) (fun x hx=>by obtain ⟨q,hq,rfl⟩:=aC0 hx;exact ih q hq)
theorem bm2 {l : List Rw} (h : cq2 l = true) : okR 8 (ao7 l) := by
 unfold cq2 at h
 rw[decide_eq_true_eq] at h
 unfold ao7
 cases l with
 | nil=>exact (aw4 ⟨by omega,by omega⟩).mono (by omega)
 | cons r l=>exact bm1 7 _ h r List.mem_cons_self
end Go.Proofs.YtpmjpogcaglphaaGreatDoor.A
