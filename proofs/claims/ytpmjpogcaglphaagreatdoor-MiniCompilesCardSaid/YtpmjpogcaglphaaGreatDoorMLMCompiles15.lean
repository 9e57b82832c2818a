/- The document's builder: part, join. -/
import Derived.Test.YtpmjpogcaglphaaGreatDoorMLMCompiles14
set_option linter.unusedVariables false
set_option linter.unusedSimpArgs false
set_option linter.unnecessarySimpa false
namespace Go.Proofs.YtpmjpogcaglphaaGreatDoor.A
open Go
set_option maxRecDepth 20000
def aH0 (kind hi : Int) (l : List Nd) : List Nd := if kind = 9 then List.replicate hi.toNat (l.getD 0 default) else l
theorem aX1 {kind set lo hi : Int} {l : List Nd} (hk : okQ (.mk kind set lo hi l) = true) (h4 : kind ≠ 4) (b : BS) :
  ((j6 (m4 (aH0 kind hi l)) b.state []).2.n < 1000→d7 (.mk kind set lo hi l) b = (((b.n : Int),((j6 (m4 (aH0 kind hi l)) b.state []).2.n : Int)),X6 kind set lo b.n (j6 (m4 (aH0 kind hi l)) b.state []).2.n (j6 (m4 (aH0 kind hi l)) b.state []).1 (j6 (m4 (aH0 kind hi l)) b.state []).2.state)) ∧
  (1000≤(j6 (m4 (aH0 kind hi l)) b.state []).2.n→1000 < (d7 (.mk kind set lo hi l) b).2.n):=by
 rw[okQ,Bool.and_eq_true] at hk
 obtain ⟨hk1,hk2⟩:=hk
 have hkn:=aC8 l hk1
 have once : ∀ (x : Nd) (ar bk : Bool),okN x = true→((j6 (m4 [x]) b.state []).2.n < 1000→(j6 (m4 [x]) b.state []) = ([(d7 x b.state).1],(d7 x b.state).2))∧(1000≤(j6 (m4 [x]) b.state []).2.n→1000 < (aa8 (d7 x) ar bk b).2.n):=by
  intro x ar bk hx
  have e : j6 (m4 [x]) b.state [] = if b.state.n > 1000 then ([],b.state) else ([(d7 x b.state).1],(d7 x b.state).2):=by
   rw[m4,m4,aa9,j6];rfl
  rw[e]
  have e2 : (aa8 (d7 x) ar bk b).2.n = (d7 x b.state).2.n+1:=rfl
  have:=(ad9 x hx b.state).lo
  refine ⟨fun h=>?_,fun h=>?_⟩
  ·split at h
   ·rename_i h';exact absurd h (by show ¬ b.state.n < 1000;omega)
   ·rename_i h';rw[if_neg h']
  ·rw[e2]
   split at h
   ·omega
   ·have h : 1000≤(d7 x b.state).2.n:=h
    omega
 rw[d7,aB9,if_neg h4]
 by_cases k9 : kind = 9
 ·subst k9
  rw[if_neg (by decide),if_neg (by decide),if_pos rfl,decide_eq_true_eq] at hk2
  obtain ⟨x,m,rfl⟩:=List.exists_cons_of_length_pos hk2.1
  have e1 : aH0 9 hi (x :: m) = List.replicate hi.toNat x:=rfl
  rw[e1,aK3,if_neg (by decide),if_neg (by decide),if_neg (by decide),if_neg (by decide),if_pos rfl,m4]
  obtain ⟨r,hr⟩ : ∃ r,r = j6 (List.replicate hi.toNat (d7 x)) b.state []:=⟨_,rfl⟩
  have hb : C8 lo hi.toNat (d7 x) b = if r.2.state.n > 1000 then (((b.n : Int),(r.2.n : Int)),r.2.state) else (((b.n : Int),(r.2.n : Int)),r.2.state.frees (O2 b.n r.1++x7 lo r.2.n 0 r.1++(if lo = 0 then [((b.n : Int),(r.2.n : Int))] else []))):=by rw[hr];rfl
  have es : r.2.state.n = r.2.n+1:=rfl
  rw[← hr]
  show (_→C8 lo hi.toNat (d7 x) b = _)∧(_→1000 < (C8 lo hi.toNat (d7 x) b).2.n)
  rw[hb]
  refine ⟨fun h=>?_,fun h=>?_⟩
  ·rw[if_neg (by omega)];rfl
  ·rw[if_pos (by omega)];show 1000 < r.2.state.n;omega
 have e1 : aH0 kind hi l = l:=if_neg k9
 rw[e1]
 by_cases k5 : kind = 5
 ·subst k5
  rw[if_pos rfl]
  refine ⟨fun h=>rfl,fun h=>?_⟩
  show 1000 < (j6 (m4 l) b.state []).2.n+1
  omega
 rw[if_neg k5]
 by_cases k6 : kind = 6 ∨ kind = 7 ∨ kind = 8
 ·rw[if_neg (by omega),if_pos k6,decide_eq_true_eq] at hk2
  obtain ⟨x,m,rfl⟩:=List.exists_cons_of_length_pos (show 0 < l.length by omega)
  have hm : m = []:=by simpa using hk2
  subst hm
  rw[ab8,Bool.and_eq_true] at hkn
  have hh : (m4 [x]).headD (fun b=>((0,0),b)) = d7 x:=by rw[m4];rfl
  rw[hh]
  rcases k6 with rfl | rfl | rfl
  ·rw[if_pos rfl]
   refine ⟨fun h=>?_,(once x _ _ hkn.1).2⟩
   rw[(once x true true hkn.1).1 h];rfl
  ·rw[if_neg (by decide),if_pos rfl]
   refine ⟨fun h=>?_,(once x _ _ hkn.1).2⟩
   rw[(once x true true hkn.1).1 h];rfl
  ·rw[if_neg (by decide),if_neg (by decide),if_pos rfl]
   refine ⟨fun h=>?_,(once x _ _ hkn.1).2⟩
   rw[(once x true true hkn.1).1 h];rfl
 ·rw[if_neg (by omega),if_neg k6,if_neg k9,decide_eq_true_eq] at hk2
  have hl : l = []:=List.length_eq_zero_iff.1 hk2
  subst hl
  rw[if_neg (fun h=>k6 (.inl h)),if_neg (fun h=>k6 (.inr (.inl h))),if_neg (fun h=>k6 (.inr (.inr h))),if_neg k9,m4,j6]
  have e2 : ((b.state.n : Nat) : Int) = (b.n : Int)+1:=by show ((b.n+1 : Nat) : Int) = _;omega
  have e3 : (aq4 kind set b).2.n = b.n+2:=by
   unfold aq4;dsimp only;split
   ·rfl
   ·split <;> rfl
  refine ⟨fun h=>?_,fun h=>by rw[e3];have h : 1000≤b.n+1:=h;omega⟩
  show aq4 kind set b = (((b.n : Int),((b.state.n : Nat) : Int)),X6 kind set lo b.n (b.state.n : Nat) [] b.state.state)
  rw[e2]
  unfold aq4 X6
  by_cases k1 : kind = 1
  ·rw[if_pos k1,if_pos k1]
  by_cases k3 : kind = 3
  ·rw[if_neg k1,if_pos k3,if_neg k1,if_pos k3]
  rw[if_neg k1,if_neg k3,if_neg k1,if_neg k3,if_neg k5,if_neg (fun h=>k6 (.inl h)),if_neg (fun h=>k6 (.inr (.inl h))),if_neg (fun h=>k6 (.inr (.inr h))),if_neg k9]
theorem bf5 (b : BS) (h : b.n≤1000) : (K5 b true).2.2 = true∧(K5 b true).2.1.n≤1000 := by
 unfold K5
 split
 ·exact ⟨rfl,h⟩
 ·exact ⟨rfl,by show b.n+1≤1000;omega⟩
theorem cz5 (kind set lo s e : Int) (p : List (Int × Int)) (b : BS) : (X6 kind set lo s e p b).n = b.n := by
 unfold X6
 repeat (first | rfl | split)
noncomputable abbrev am8 : List (FuncId × (List AV→AH→Option (AV × AH))) := [(59,B1 X7),(84,B1 cz4),(85,B1 bm5),(86,B1 aG9),(93,B1 aq8)]
theorem ar1 : x8 Tryz.prog (p8 am8)∧Up (p8 am8) :=
 m9 (m9 (m9 (m9 (m9 (C1 _) fun args H v H' h=>(u0 h).1) fun args H v H' h=>(u0 h).1) fun args H v H' h=>(u0 h).1) fun args H v H' h=>(u0 h).1) fun args H v H' h=>(u0 h).1
theorem aX2 (X) : d9 (EX md0 X) (fun _=>none) 2 Tryz.f59 = true := by kernel_rfl
theorem bw6 {kind set lo hi : Int} {l : List Nd} (hk : okQ (.mk kind set lo hi l) = true) (h4 : kind ≠ 4) : ab8 (aH0 kind hi l) = true∧(aH0 kind hi l).length≤1000∧(∀ x ∈ aH0 kind hi l,x ∈ l)∧(∀ i,i < (aH0 kind hi l).length→0 < l.length∧(kind = 5→i < l.length∧(aH0 kind hi l).getD i default = l.getD i default)∧(kind ≠ 5→(aH0 kind hi l).getD i default = l.getD 0 default))∧(((aH0 kind hi l).length : Int) = if kind = 9 then hi else (l.length : Int))∧(kind = 6 ∨ kind = 7 ∨ kind = 8→(aH0 kind hi l).length = 1)∧(kind = 9→(0≤lo∧lo≤10)∧(0 < hi ↔ 0 < (aH0 kind hi l).length)) := by
 rw[okQ,Bool.and_eq_true] at hk
 obtain ⟨hk1,hk2⟩:=hk
 have hkn:=aC8 l hk1
 by_cases k9 : kind = 9
 ·rw[if_neg (by omega),if_neg (by omega),if_pos k9,decide_eq_true_eq] at hk2
  obtain ⟨x,m,rfl⟩:=List.exists_cons_of_length_pos hk2.1
  have e1 : aH0 kind hi (x :: m) = List.replicate hi.toNat x:=by rw[aH0,if_pos k9];rfl
  rw[ab8,Bool.and_eq_true] at hkn
  rw[e1,List.length_replicate,if_pos k9]
  refine ⟨bm3 hkn.1 _,by omega,fun y hy=>by rw[List.eq_of_mem_replicate hy];exact List.mem_cons_self,fun i hi'=>⟨by simp,fun h=>by omega,fun _=>?_⟩,by omega,fun h=>by omega,fun _=>⟨by omega,by omega⟩⟩
  simp[List.getD,List.getElem?_replicate,hi']
 ·have e1 : aH0 kind hi l = l:=if_neg k9
  rw[e1,if_neg k9]
  refine ⟨hkn,?_,fun _ h=>h,fun i hi'=>⟨by omega,fun _=>⟨hi',rfl⟩,fun h5=>?_⟩,rfl,fun h=>?_,fun h=>absurd h k9⟩
  ·by_cases k5 : kind = 4 ∨ kind = 5
   ·rw[if_pos k5,decide_eq_true_eq] at hk2;omega
   rw[if_neg k5] at hk2
   by_cases k6 : kind = 6 ∨ kind = 7 ∨ kind = 8
   ·rw[if_pos k6,decide_eq_true_eq] at hk2;omega
   rw[if_neg k6,if_neg k9,decide_eq_true_eq] at hk2;omega
  ·rw[if_neg (by omega)] at hk2
   by_cases k6 : kind = 6 ∨ kind = 7 ∨ kind = 8
   ·rw[if_pos k6,decide_eq_true_eq] at hk2
    rw[show i = 0 by omega]
   ·rw[if_neg k6,if_neg k9,decide_eq_true_eq] at hk2;omega
  ·rw[if_neg (by omega),if_pos h,decide_eq_true_eq] at hk2;exact hk2
theorem ce1 {kind set lo hi : Int} {l : List Nd} (hk : okQ (.mk kind set lo hi l) = true) (h4 : kind ≠ 4) (hpart : ∀ x ∈ l,∀ t o nx b,QAt o nx t b false→QPre b→∃ v H',X7 [bp t,j5 x] ⟨o,nx⟩ v H') {t : Nat} {o : Ob} {nx : Nat} {b : BS} (h : QAt o nx t b false) (hp : QPre b) :
  ∃ v H',X7 [bp t,j5 (.mk kind set lo hi l)] ⟨o,nx⟩ v H':=by
 obtain ⟨cr,hcr⟩ : ∃ cr,cr = p8 am8:=⟨_,rfl⟩
 have hP : cr 59 = B1 X7:=by rw[hcr];rfl
 have hS : cr 85 = B1 bm5:=by rw[hcr];rfl
 have hL : cr 86 = B1 aG9:=by rw[hcr];rfl
 obtain ⟨f1,f2,f3,f4,f5,f6,f7⟩:=bw6 hk h4
 obtain ⟨pA,pB⟩:=aX1 hk h4 b
 obtain ⟨ks,hks⟩ : ∃ ks,ks = aH0 kind hi l:=⟨_,rfl⟩
 rw[← hks] at f1 f2 f3 f4 f5 f6 f7 pA pB
 have hpart' : ∀ x ∈ ks,∀ t o nx b,QAt o nx t b false→QPre b→∃ v H',X7 [bp t,j5 x] ⟨o,nx⟩ v H':=fun x hx=>hpart x (f3 x hx)
 obtain ⟨z,hz⟩ : ∃ z,z = d7 (.mk kind set lo hi l) b:=⟨_,rfl⟩
 rw[← hz] at pA pB
 obtain ⟨v,H',h1,h2⟩:=D6 (E:=EX md0 (fun _ _=>none)) (cr:=cr) (z8 _) (hcr ▸ ar1) mixed (k:=3002) (args:=[bp t,j5 (.mk kind set lo hi l)]) (o:=o) (nx:=nx) (Post:=fun v o' nx'=>cO2 z t v ⟨o,nx⟩ ⟨o',nx'⟩) Tryz.func59 (aX2 _) rfl (by
  clear hcr
  have hnew : ∀ y,∀ i j,i < nx→upd o (nx,3) y (i,j) = o (i,j):=fun y i j hi=>by simp (disch:=omega) only[B6]
  have hlo:=am7 f1 b.state []
  have es : b.state.n = b.n+1:=rfl
  have hpn:=hp.n
  have hpf:=hp.f
  have hps:=hp.s
  have hrow:=h
  obtain ⟨vS,vF,hrow⟩:=hrow
  have htn:=hrow.lt
  replace hrow:=hrow.row
  simp only[Tryz.f59,Option.getD_some]
  simp (disch:=omega) only[go_sem,hS,hrow,h4]
  refine aj5 (h.new (hnew _) (by omega)) hpn ?_
  intro o1 nx1 hle1 hB1 hk1
  have hx3 : o1 (nx,3) = some (.row ⟨28,1,(nx,3),false,true,[.int .i64 kind,.int .i64 set,.int .i64 lo,.int .i64 hi,slN l]⟩):=by rw[hk1 _ _ (by omega) (fun e=>absurd e (by decide)) (by decide) (by decide)];simp[b9]
  have k1 : QKeep t o nx o1:=(QKeep.new (hnew _)).trans hk1 (by omega)
  clear hk1 hrow
  obtain ⟨s0,hs0⟩ : ∃ s0,s0 = (K5 b false).1:=⟨_,rfl⟩
  rw[← hs0]
  have hst : QAt o1 nx1 t b.state false∧QPre b.state∧s0 = b.n ∨ ∃ b',b'.n≤1000∧QAt o1 nx1 t b' true∧1000 < (j6 (m4 ks) b.state []).2.n:=by
   by_cases hb : b.n ≥ 1000
   ·rw[show K5 b false = (0,b,true) from if_pos hb] at hB1
    exact .inr ⟨b,hpn,hB1,by omega⟩
   ·have e : K5 b false = ((b.n : Int),b.state,false):=if_neg hb
    rw[e] at hB1 hs0
    exact .inl ⟨hB1,⟨by show b.f.length≤_;omega,by show b.s.length≤_;omega,by omega⟩,hs0⟩
  clear hB1 hs0 hlo
  obtain ⟨c18,h18⟩ : ∃ c,c = u9 [1,1,1,1,1,1,1,1] (Tryz.f59.body.getD .skip):=⟨_,rfl⟩
  have h18':=h18
  simp only[Tryz.f59,Option.getD_some,u9] at h18'
  have loop : ∀ (a : v6) (o2 : Ob) (nx2 : Nat) (Q : s8),nx1≤nx2→o2 = o1→a 3 = .ptr (nx,3) (nx,3) 0→a 7 = .nil→a 8 = .nil→a 9 = .int .i64 ks.length→a 10 = .int .i64 0→a 0 = bp t→a 6 = .int .i64 s0 →
    (∀ (a : v6) (o' : Ob) (nx' : Nat) (v : AV × AV),a 4 = v.1→a 5 = v.2→cO2 z t (.tup [v.1,v.2]) ⟨o,nx⟩ ⟨o',nx'⟩→Q .ret a o' nx')→WP (EX md0 (fun _ _=>none)) cr 3002 (fun _=>none) (u9 [1,1,1,1,1,1,1,0,1,0] (Tryz.f59.body.getD .skip)) a o2 nx2 (I8 0 (aA9 (EX md0 (fun _ _=>none)) cr 3002 (fun _=>none) c18 Q)):=by
   intro a o2 nx2 Q hle2 ho2 h3 h7 h8 h9 h10 h0 h6 hQ
   subst ho2
   refine bw5 (s:=s0) (b0:=b.state) (o0:=o) (nx0:=nx) f1 f2 f4 hpart' hP (Nat.le_refl nx) (by omega) (by omega) (hst.imp (fun ⟨u1,u2,_⟩=>⟨u1.new (fun _ _ _=>rfl) hle2,u2⟩) (fun ⟨b',u1,u2,u3⟩=>⟨b',u1,u2.new (fun _ _ _=>rfl) hle2,u3⟩)) hx3 h3 h7 h8 h9 h10 h0 h6 k1 ?_ ?_
   ·clear h3 h7 h8 h9 h10 h0 h6
    intro a o3 nx3 b3 out vf vt hnx3 hrn3 hB3 hp3 hbp hout hf ht hx3 h3 h7 h8 h0 h6 k3
    rw[hbp] at pA pB hst
    dsimp only at pA pB hst
    rcases hst with ⟨_,_,hs0⟩ | ⟨_,_,_,hm⟩
    ·rw[h18]
     simp only[Tryz.f59,Option.getD_some,u9]
     have hp3n:=hp3.n
     have hp3f:=hp3.f
     have hp3s:=hp3.s
     simp (disch:=omega) only[go_sem,hS,h0,h3,h6,h7,h8]
     refine aj5 (hB3.new (fun _ _ _=>rfl) (by omega)) hp3n ?_
     intro o4 nx4 hle4 hB4 hk4
     have k4 : QKeep t o nx o4:=k3.trans (fun i j (hi : i < nx3)=>hk4 i j (by omega)) (by omega)
     have hx34:=(hk4 nx 3 (by omega) (fun e=>absurd e (by decide)) (by decide) (by decide)).trans hx3
     have hf4:=(hf.slot (o':=o3) (nx':=nx3+1) (fun _=>rfl) (by omega)).keep hk4 (by decide) (by decide) (by decide) hle4
     have ht4:=(ht.slot (o':=o3) (nx':=nx3+1) (fun _=>rfl) (by omega)).keep hk4 (by decide) (by decide) (by decide) hle4
     by_cases hb3 : b3.n ≥ 1000
     ·rw[show K5 b3 false = (0,b3,true) from if_pos hb3] at hB4 ⊢
      have hrow4:=hB4
      obtain ⟨vS,vF,hrow4⟩:=hrow4
      replace hrow4:=hrow4.row
      simp (disch:=omega) only[go_sem,hrow4,h0,h6]
      refine hQ _ _ _ (.int .i64 s0,.int .i64 0) (by simp (disch:=omega) only[go_sem,h6]) (by simp (disch:=omega) only[go_sem]) ⟨by dsimp only;omega,k4,s0,0,rfl,.inr ⟨pB hb3,b3,hp3n,hB4.new (fun _ _ _=>rfl) (by dsimp only;omega)⟩⟩
     ·rw[show K5 b3 false = ((b3.n : Int),b3.state,false) from if_neg hb3] at hB4 ⊢
      have hrow4:=hB4
      obtain ⟨vS,vF,hrow4⟩:=hrow4
      replace hrow4:=hrow4.row
      have hpA:=pA (by omega)
      simp (disch:=omega) only[go_sem,hrow4,hL,h0,h3,h6,h7,h8,hx34]
      rw[← n7]
      have hBn : ∀ n,nx4≤n→QAt o4 n t b3.state false:=fun n hn=>hB4.new (fun _ _ _=>rfl) hn
      have hfn : ∀ n,nx4≤n→IAt 70 o4 n vf (Q1 out):=fun n hn=>hf4.slot (fun _=>rfl) hn
      have htn' : ∀ n,nx4≤n→IAt 74 o4 n vt (Q2 out):=fun n hn=>ht4.slot (fun _=>rfl) hn
      refine F6 (cz3 (hBn _ (by omega)) (hfn _ (by omega)) (htn' _ (by omega)) (by show b3.f.length≤_;omega) (by show b3.s.length≤_;omega) (by omega) (fun h=>by rw[hout];exact f6 h) (fun h=>by rw[hout];exact f7 h)) fun v H' hr=>?_
      obtain ⟨rfl,g1,g2,g3⟩:=hr.2 t b3.state kind set lo hi l s0 b3.n vf vt out rfl (hfn _ (by dsimp only;omega)) (htn' _ (by dsimp only;omega)) (hBn _ (by dsimp only;omega))
      obtain ⟨o5,nx5⟩:=H'
      dsimp only at g1 g2 g3
      have k5 : QKeep t o nx o5:=k4.trans (fun i j (hi : i < nx4)=>g3 i j (by omega)) (by omega)
      simp (disch:=omega) only[go_sem,h0,h6]
      refine hQ _ _ _ (.int .i64 s0,.int .i64 b3.n) (by simp (disch:=omega) only[go_sem]) (by simp (disch:=omega) only[go_sem]) ⟨by dsimp only;omega,k5,s0,b3.n,rfl,?_⟩
      have hz2 : z.2 = X6 kind set lo b.n b3.n out b3.state:=by rw[hpA]
      have hz1 : z.1 = ((b.n : Int),(b3.n : Int)):=by rw[hpA]
      refine .inl ⟨?_,by rw[hz1,hs0],?_⟩
      ·rw[hz2,cz5];show b3.n+1≤1000;omega
      ·rw[hz2,← hs0];exact g2.new (fun _ _ _=>rfl) (by dsimp only;omega)
    ·have hm : 1000 < b3.n:=hm
     have:=hp3.n
     omega
   ·clear h3 h7 h8 h9 h10 h0 h6
    intro a o3 nx3 b3 hnx3 hB3 hn3 hmuch h0 h6 k3
    rw[h18]
    simp only[Tryz.f59,Option.getD_some,u9]
    simp (disch:=omega) only[go_sem,hS,h0,h6]
    refine aj5 (hB3.new (fun _ _ _=>rfl) (by omega)) hn3 ?_
    intro o4 nx4 hle4 hB4 hk4
    have k4 : QKeep t o nx o4:=k3.trans (fun i j (hi : i < nx3)=>hk4 i j (by omega)) (by omega)
    obtain ⟨u1,u2⟩:=bf5 b3 hn3
    rw[u1] at hB4
    obtain ⟨e4,he4⟩ : ∃ e4,e4 = (K5 b3 true).1:=⟨_,rfl⟩
    rw[← he4]
    have hrow4:=hB4
    obtain ⟨vS,vF,hrow4⟩:=hrow4
    replace hrow4:=hrow4.row
    simp (disch:=omega) only[go_sem,hrow4,h0,h6]
    exact hQ _ _ _ (.int .i64 s0,.int .i64 e4) (by simp (disch:=omega) only[go_sem,h6]) (by simp (disch:=omega) only[go_sem]) ⟨by dsimp only;omega,k4,s0,e4,rfl,.inr ⟨pB (by omega),_,u2,hB4.new (fun _ _ _=>rfl) (by dsimp only;omega)⟩⟩
  rw[← h18']
  by_cases k9 : kind = 9
  ·rw[if_pos k9] at f5
   simp (disch:=omega) only[go_sem,hx3,k9]
   exact loop _ _ _ _ (by omega) rfl (by simp (disch:=omega) only[go_sem]) (by simp (disch:=omega) only[go_sem]) (by simp (disch:=omega) only[go_sem]) (by rw[f5];simp (disch:=omega) only[go_sem]) (by simp (disch:=omega) only[go_sem]) (by simp (disch:=omega) only[go_sem]) (by simp (disch:=omega) only[go_sem]) (fun a o' nx' v e1 e2 hr=>⟨.inr rfl,by rw[e1,e2];exact hr⟩)
  ·rw[if_neg k9] at f5
   simp (disch:=omega) only[go_sem,hx3,k9]
   exact loop _ _ _ _ (by omega) rfl (by simp (disch:=omega) only[go_sem]) (by simp (disch:=omega) only[go_sem]) (by simp (disch:=omega) only[go_sem]) (by rw[f5];simp (disch:=omega) only[go_sem]) (by simp (disch:=omega) only[go_sem]) (by simp (disch:=omega) only[go_sem]) (by simp (disch:=omega) only[go_sem]) (fun a o' nx' v e1 e2 hr=>⟨.inr rfl,by rw[e1,e2];exact hr⟩))
 refine ⟨v,H',h1,fun t' b' x' e hb=>?_⟩
 simp only[List.cons.injEq,AV.ptr.injEq,Prod.mk.injEq,AV.agg.injEq,and_true] at e
 obtain ⟨⟨rfl,_⟩,e2⟩:=e
 rw[← (h.same hb).1,← K0 e2,← hz]
 exact h2
set_option maxRecDepth 20000
theorem bK1 {cr : v8} {nx0 : Nat} {out : List (Int × Int)} {s e : Int} {vf vt : AV} {a : v6} {o : Ob} {nx : Nat} {Q : s8} (hlen : out.length≤2000) (hnx : nx0≤nx) (h7 : a 6 = vf) (h8 : a 7 = vt) (h12 : a 9 = .int .i64 s) (h13 : a 10 = .int .i64 e) (hf : IAt 39 o nx vf (Q1 out)) (ht : IAt 43 o nx vt (Q2 out)) (hff : ∀ j g n,vf = .ref (j,39) g 0 n→nx0≤j) (htf : ∀ j g n,vt = .ref (j,43) g 0 n→nx0≤j)
  (hQ : ∀ a' o' nx' vf' vt',nx≤nx'→IAt 39 o' nx' vf' (Q1 (out++[(s,e)]))→IAt 43 o' nx' vt' (Q2 (out++[(s,e)]))→(∀ j g n,vf' = .ref (j,39) g 0 n→nx0≤j)→(∀ j g n,vt' = .ref (j,43) g 0 n→nx0≤j)→a' 6 = vf'→a' 7 = vt'→(∀ u,u ≠ 6→u ≠ 7→u < 36→a' u = a u)→(∀ i j,i < nx0 ∨ (j ≠ 38∧j ≠ 39∧j ≠ 42∧j ≠ 43)→o' (i,j) = o (i,j))→Q .normal a' o' nx') :
  WP (EX md0 (fun _ _=>none)) cr 3002 (fun _=>none) (u9 [1,1,0,1,0,0,1,0,0,1] (Tryz.f84.body.getD .skip)) a o nx Q:=by
 simp only[Tryz.f84,Option.getD_some,u9]
 have hl : (Q1 out).length = out.length:=List.length_map ..
 have hl' : (Q2 out).length = out.length:=List.length_map ..
 have ep : ∀ (f g : Nat) (y1 y2 y3 y4 : AObj),nx0≤f→nx0≤g→∀ i j,i < nx0 ∨ (j ≠ 38∧j ≠ 39∧j ≠ 42∧j ≠ 43)→upd (upd (upd (upd o (nx,38) y1) (f,39) y2) (nx,42) y3) (g,43) y4 (i,j) = o (i,j):=fun f g y1 y2 y3 y4 hf hg i j h=>by
  rcases h with h | ⟨a1,a2,a3,a4⟩
  ·have e1 : i ≠ nx:=by omega
   have e2 : i ≠ f:=by omega
   have e3 : i ≠ g:=by omega
   simp[b9,e1,e2,e3]
  ·simp[b9,a1,a2,a3,a4]
 have tk1 : (cI (Q1 out)).take out.length = cI (Q1 out):=j7 (by rw[l9,hl])
 have tk2 : (cI (Q2 out)).take out.length = cI (Q2 out):=j7 (by rw[l9,hl'])
 have p1 : Q1 (out++[(s,e)]) = Q1 out++[s]:=aW8 ..
 have p2 : Q2 (out++[(s,e)]) = Q2 out++[e]:=aW9 ..
 have c1 : cI (Q1 out++[s]) = cI (Q1 out)++[.int .i64 s]:=by rw[P5];rfl
 have c2 : cI (Q2 out++[e]) = cI (Q2 out)++[.int .i64 e]:=by rw[P5];rfl
 have fin : ∀ (a' : v6) (f g : Nat) (gf gg : Tag) (y1 y2 y3 y4 : AObj) (vf' vt' : AV),nx0≤f→nx0≤g→f≤nx→g≤nx→vf' = .ref (f,39) gf 0 (out.length+1)→vt' = .ref (g,43) gg 0 (out.length+1)→y2 = .row ⟨3,1,gf,false,true,cI (Q1 out)++[.int .i64 s]⟩→y4 = .row ⟨3,1,gg,false,true,cI (Q2 out)++[.int .i64 e]⟩→a' 6 = vf'→a' 7 = vt'→(∀ u,u ≠ 6→u ≠ 7→u < 36→a' u = a u)→Q .normal a' (upd (upd (upd (upd o (nx,38) y1) (f,39) y2) (nx,42) y3) (g,43) y4) (nx+1):=by
  intro a' f g gf gg y1 y2 y3 y4 vf' vt' b1 b2 b3 b4 e1 e2 e3 e4 e5 e6 e7
  refine hQ a' _ _ vf' vt' (by omega) (.inr ⟨f,gf,?_,by omega,?_,?_⟩) (.inr ⟨g,gg,?_,by omega,?_,?_⟩) ?_ ?_ e5 e6 e7 (ep f g y1 y2 y3 y4 b1 b2)
  ·rw[e1,p1,List.length_append,hl];rfl
  ·rw[p1,c1,← e3];simp[b9]
  ·rw[l9];omega
  ·rw[e2,p2,List.length_append,hl'];rfl
  ·rw[p2,c2,← e4];simp[b9]
  ·rw[l9];omega
  ·intro j g' n h;rw[e1] at h;injection h with h;injection h with h;omega
  ·intro j g' n h;rw[e2] at h;injection h with h;injection h with h;omega
 rcases hf.fresh with ⟨rfl,hn1⟩ | ⟨i1,g1,rfl,hi1,hrow1⟩
 ·have hz : out.length = 0:=by rw[← hl,hn1];rfl
  rcases ht.fresh with ⟨rfl,hn2⟩ | ⟨i2,g2,rfl,hi2,hrow2⟩
  ·simp (disch:=omega) only[go_sem,h7,h8,h12,h13]
   exact fin _ nx nx (nx,39) (nx,43) _ _ _ _ (.ref (nx,39) (nx,39) 0 1) (.ref (nx,43) (nx,43) 0 1) (by omega) (by omega) (by omega) (by omega) (by rw[hz]) (by rw[hz]) (by rw[hn1];rfl) (by rw[hn2];rfl) (by simp (disch:=omega) only[go_sem]) (by simp (disch:=omega) only[go_sem]) (fun u u1 u2 u3=>by simp (disch:=omega) only[go_sem,u1,u2])
  ·have hj:=htf _ _ _ rfl
   rw[hl'] at h8
   simp (disch:=omega) only[go_sem,h7,h8,h12,h13,hrow2,hl',tk1,tk2]
   exact fin _ nx i2 (nx,39) (nx,43) _ _ _ _ (.ref (nx,39) (nx,39) 0 1) (.ref (i2,43) (nx,43) 0 (out.length+1)) (by omega) (by omega) (by omega) (by omega) (by rw[hz]) rfl (by rw[hn1];rfl) rfl (by simp (disch:=omega) only[go_sem]) (by simp (disch:=omega) only[go_sem]) (fun u u1 u2 u3=>by simp (disch:=omega) only[go_sem,u1,u2])
 ·have hj1:=hff _ _ _ rfl
  rw[hl] at h7
  rcases ht.fresh with ⟨rfl,hn2⟩ | ⟨i2,g2,rfl,hi2,hrow2⟩
  ·have hz : out.length = 0:=by rw[← hl',hn2];rfl
   simp (disch:=omega) only[go_sem,h7,h8,h12,h13,hrow1,hl,tk1,tk2]
   exact fin _ i1 nx (nx,39) (nx,43) _ _ _ _ (.ref (i1,39) (nx,39) 0 (out.length+1)) (.ref (nx,43) (nx,43) 0 1) (by omega) (by omega) (by omega) (by omega) rfl (by rw[hz]) rfl (by rw[hn2];rfl) (by simp (disch:=omega) only[go_sem]) (by simp (disch:=omega) only[go_sem]) (fun u u1 u2 u3=>by simp (disch:=omega) only[go_sem,u1,u2])
  ·have hj:=htf _ _ _ rfl
   rw[hl'] at h8
   simp (disch:=omega) only[go_sem,h7,h8,h12,h13,hrow1,hrow2,hl,hl',tk1,tk2]
   exact fin _ i1 i2 (nx,39) (nx,43) _ _ _ _ (.ref (i1,39) (nx,39) 0 (out.length+1)) (.ref (i2,43) (nx,43) 0 (out.length+1)) (by omega) (by omega) (by omega) (by omega) rfl rfl rfl rfl (by simp (disch:=omega) only[go_sem]) (by simp (disch:=omega) only[go_sem]) (fun u u1 u2 u3=>by simp (disch:=omega) only[go_sem,u1,u2])
theorem bw7 {set lo hi : Int} {ks : List Nd} (hk : ab8 ks = true) (hlen : ks.length≤1000) (hpart : ∀ x ∈ ks,∀ t o nx b,QAt o nx t b false→QPre b→∃ v H',X7 [bp t,j5 x] ⟨o,nx⟩ v H') {cr : v8} (hP : cr 59 = B1 X7)
  {t r : Nat} {o0 : Ob} {nx0 : Nat} {b0 : BS} {a : v6} {o : Ob} {nx : Nat} {Q : s8} (hr : nx0≤r) (hrn : r < nx) (hnx : nx0≤nx) (hst : QAt o nx t b0 false) (hpre0 : QPre b0) (ho3 : o (r,3) = some (.row ⟨28,1,(r,3),false,true,[.int .i64 4,.int .i64 set,.int .i64 lo,.int .i64 hi,slN ks]⟩)) (h3 : a 3 = .ptr (r,3) (r,3) 0) (h7 : a 6 = .nil) (h8 : a 7 = .nil) (h10 : a 8 = .int .i64 0) (h0 : a 0 = bp t) (hkp : QKeep t o0 nx0 o)
  (hQ1 : ∀ a o nx b out vf vt,nx0≤nx→QAt o nx t b false→QPre b→j6 (m4 ks) b0 [] = (out,b)→out.length = ks.length→IAt 39 o nx vf (Q1 out)→IAt 43 o nx vt (Q2 out)→a 6 = vf→a 7 = vt→a 0 = bp t→QKeep t o0 nx0 o→Q .normal a o nx)
  (hQ2 : ∀ a o nx b',nx0≤nx→QAt o nx t b' true→b'.n≤1000→1000 < (j6 (m4 ks) b0 []).2.n→a 0 = bp t→QKeep t o0 nx0 o→Q .normal a o nx) :
  WP (EX md0 (fun _ _=>none)) cr 3002 (fun _=>none) (u9 [1,1,0,1,0] (Tryz.f84.body.getD .skip)) a o nx (I8 0 Q):=by
 simp only[Tryz.f84,Option.getD_some,u9]
 refine o9 (fun m a o nx=>∃ (i : Nat) (vf vt : AV),i≤ks.length∧m = ks.length - i∧nx0≤nx∧r < nx∧a 6 = vf∧a 7 = vt∧((∃ b out,QAt o nx t b false∧QPre b∧j6 (m4 ks) b0 [] = j6 (m4 (ks.drop i)) b out∧out.length = i∧IAt 39 o nx vf (Q1 out)∧IAt 43 o nx vt (Q2 out)∧(∀ j g n,vf = .ref (j,39) g 0 n→nx0≤j)∧(∀ j g n,vt = .ref (j,43) g 0 n→nx0≤j)) ∨ ∃ b',b'.n≤1000∧QAt o nx t b' true∧1000 < (j6 (m4 ks) b0 []).2.n)∧o (r,3) = some (.row ⟨28,1,(r,3),false,true,[.int .i64 4,.int .i64 set,.int .i64 lo,.int .i64 hi,slN ks]⟩)∧a 3 = .ptr (r,3) (r,3) 0∧a 8 = .int .i64 i∧a 0 = bp t∧QKeep t o0 nx0 o) ks.length (by omega) ⟨0,.nil,.nil,by omega,by omega,hnx,hrn,h7,h8,.inl ⟨b0,[],hst,hpre0,rfl,rfl,HS.nil,HS.nil,fun j g n h=>(by cases h),fun j g n h=>(by cases h)⟩,ho3,h3,h10,h0,hkp⟩ ?_
 clear hst hpre0 ho3 h3 h7 h8 h10 h0 hkp hnx hrn
 rintro m a o nx ⟨i,vf,vt,hi,rfl,hnx,hrn,h7,h8,hst,ho3,h3,h10,h0,hkp⟩
 rcases hst with ⟨b,out,hB,hpre,hbp,hout,hf,ht,hff,htf⟩ | ⟨b',hn',hB',hmuch⟩
 ·have hB':=hB
  obtain ⟨vS,vF,hR⟩:=hB'
  have hrow:=hR.row
  have htn:=hR.lt
  by_cases hlt : i < ks.length
  ·have hmem:=bH8 hlt
   have hx:=aO2 hk hlt
   have hdrop:=aj1 hlt
   have hat:=ai9 hlt
   obtain ⟨x,hxe⟩ : ∃ x,x = ks.getD i default:=⟨_,rfl⟩
   rw[← hxe] at hmem hx hdrop hat
   rw[hdrop,aa9,if_neg (by have:=hpre.n;omega)] at hbp
   obtain ⟨c6,h6⟩ : ∃ c,c = u9 [1,1,0,1,0,0,1,0,0,1] (Tryz.f84.body.getD .skip):=⟨_,rfl⟩
   have h6':=h6
   simp only[Tryz.f84,Option.getD_some,u9] at h6'
   rw[← h6']
   clear h6'
   simp (disch:=omega) only[go_sem,h0,h3,h7,h8,h10,hrow,ho3,hat,hP]
   refine ag6 (hpart x hmem t _ _ b (hB.new (fun _ _ _=>rfl) (by omega)) hpre) (hB.new (fun _ _ _=>rfl) (by omega)) ?_
   intro s' e' o1 nx1 hle1 hk1 hres
   have k1 : QKeep t o nx o1:=fun i' j' (hi' : i' < nx)=>hk1 i' j' (by omega)
   have hf1:=hf.keep (nx':=nx1) k1 (by decide) (by decide) (by decide) (by omega)
   have ht1:=ht.keep (nx':=nx1) k1 (by decide) (by decide) (by decide) (by omega)
   clear hk1
   simp (disch:=omega) only[go_sem,h0,h3,h7,h8,h10]
   rw[h6]
   refine bK1 (nx0:=nx0) (out:=out) (s:=s') (e:=e') (by omega) (by omega) (by simp (disch:=omega) only[go_sem,h7]) (by simp (disch:=omega) only[go_sem,h8]) (by simp (disch:=omega) only[go_sem]) (by simp (disch:=omega) only[go_sem]) (hf1.slot (fun _=>rfl) (by omega)) (ht1.slot (fun _=>rfl) (by omega)) hff htf ?_
   intro a' o2 nx2 vf' vt' hle2 hf2 ht2 hff2 htf2 ha6 ha7 hau ho2
   have ga0:=hau 0 (by decide) (by decide) (by decide)
   have ga3:=hau 3 (by decide) (by decide) (by decide)
   have ga8:=hau 8 (by decide) (by decide) (by decide)
   clear hau
   simp only[ai6,Nat.reduceEqDiff,if_true,if_false,h0,h3,h10] at ga0 ga3 ga8
   clear h0 h3 h7 h8 h10 h6
   simp (disch:=omega) only[go_sem,ga0,ga3,ga8,ha6,ha7]
   have k2 : QKeep t o0 nx0 o2:=(hkp.trans k1 hnx).trans (fun i' j' hi' _ _ _=>ho2 i' j' (.inl hi')) (by omega)
   have ho32:=(ho2 r 3 (.inr (by decide))).trans (k1.row ho3 hrn (fun e=>absurd e (by decide)) (by decide) (by decide))
   have hqs : ∀ b m,QAt o1 nx1 t b m→QAt o2 (nx2+1) t b m:=fun b m h=>h.slot (fun i' j' hj'=>ho2 i' j' (.inr (by omega))) (by omega)
   refine ⟨_,?_,i+1,vf',vt',by omega,rfl,by omega,by omega,rfl,rfl,?_,ho32,rfl,k2⟩
   ·omega
   ·rcases hres with ⟨u1,u2,u3⟩ | ⟨u1,b',u2,u3⟩
    ·refine .inl ⟨_,out++[(s',e')],hqs _ _ u3,aD2 hx.1 hpre u1,by rw[hbp,u2],by simp[hout],hf2.slot (fun _=>rfl) (by omega),ht2.slot (fun _=>rfl) (by omega),hff2,htf2⟩
    ·refine .inr ⟨b',u2,hqs _ _ u3,?_⟩
     rw[hbp]
     exact Nat.lt_of_lt_of_le u1 (am7 (aD1 hk _) _ _)
  ·have hdr : ks.drop i = []:=List.drop_of_length_le (by omega)
   rw[hdr,m4,j6] at hbp
   simp (disch:=omega) only[go_sem,h0,h3,h7,h8,h10,hrow,ho3]
   exact hQ1 _ _ _ b out vf vt (by omega) (hB.new (fun _ _ _=>rfl) (by omega)) hpre hbp (by omega) (hf.slot (fun _=>rfl) (by omega)) (ht.slot (fun _=>rfl) (by omega)) (by simp (disch:=omega) only[go_sem,h7]) (by simp (disch:=omega) only[go_sem,h8]) (by simp (disch:=omega) only[go_sem,h0]) hkp
 ·have hB'':=hB'
  obtain ⟨vS,vF,hR⟩:=hB''
  have hrow:=hR.row
  by_cases hlt : i < ks.length
  ·simp (disch:=omega) only[go_sem,h0,h3,h7,h8,h10,hrow,ho3]
   exact hQ2 _ _ _ b' (by omega) (hB'.new (fun _ _ _=>rfl) (by omega)) hn' hmuch (by simp (disch:=omega) only[go_sem,h0]) hkp
  ·simp (disch:=omega) only[go_sem,h0,h3,h7,h8,h10,hrow,ho3]
   exact hQ2 _ _ _ b' (by omega) (hB'.new (fun _ _ _=>rfl) (by omega)) hn' hmuch (by simp (disch:=omega) only[go_sem,h0]) hkp
theorem bw8 {cr : v8} (hF : cr 93 = B1 aq8) {t : Nat} {o0 : Ob} {nx0 : Nat} {T b : BS} {p : List (Int × Int)} {vf vt : AV} {a : v6} {o : Ob} {nx : Nat} {Q : s8} (hlen : p.length≤1000) (hpos : 0 < p.length) (hnx : nx0≤nx) (hB : QAt o nx t b false) (hT : b.frees (Q8 p) = T) (hbf : b.f.length≤1000000) (hf : IAt 39 o nx vf (Q1 p)) (ht : IAt 43 o nx vt (Q2 p)) (h11 : a 11 = .int .i64 0)
  (hmore : a 0 = bp t∧a 6 = vf∧a 7 = vt∧QKeep t o0 nx0 o)
  (hQ : ∀ a o nx,nx0≤nx→QAt o nx t T false→IAt 39 o nx vf (Q1 p)→IAt 43 o nx vt (Q2 p)→a 6 = vf→a 7 = vt→QKeep t o0 nx0 o→Q .normal a o nx) :
  WP (EX md0 (fun _ _=>none)) cr 3002 (fun _=>none) (u9 [1,1,1,1,0,1,0] (Tryz.f84.body.getD .skip)) a o nx (I8 2 Q):=by
 simp only[Tryz.f84,Option.getD_some,u9]
 refine o9 (fun m a o nx=>∃ (i : Nat) (b : BS),i+1≤p.length∧m = p.length - 1 - i∧nx0≤nx∧QAt o nx t b false∧b.frees (Q8 (p.drop i)) = T∧b.f.length≤1000000+i∧IAt 39 o nx vf (Q1 p)∧IAt 43 o nx vt (Q2 p)∧a 11 = .int .i64 i∧a 0 = bp t∧a 6 = vf∧a 7 = vt∧QKeep t o0 nx0 o) (p.length - 1) (by omega) ⟨0,b,by omega,by omega,hnx,hB,hT,by omega,hf,ht,h11,hmore⟩ ?_
 clear hmore h11 hB hT hbf hf ht hnx
 rintro m a o nx ⟨i,b,hi,rfl,hnx,hB,hT,hbf,hf,ht,h11,h0,h6,h7,hkp⟩
 have hf':=hf
 have ht':=ht
 rcases hf with ⟨_,e1,_⟩ | ⟨i1,g1,rfl,hi1,hrow1,hlen1⟩
 ·simp only[List.length_map] at e1;omega
 rcases ht with ⟨_,e1,_⟩ | ⟨i2,g2,rfl,hi2,hrow2,hlen2⟩
 ·simp only[List.length_map] at e1;omega
 simp only[List.length_map] at h6 h7
 by_cases hlt : i+1 < p.length
 ·have g0:=aC9 (show i < p.length by omega)
  have g1':=aq9 hlt
  rw[aK4 hlt,z6] at hT
  simp (disch:=omega) only[go_sem,h0,h6,h7,h11,hrow1,hrow2,g0,g1',hF]
  refine E6 (hB.new (fun _ _ _=>rfl) (by omega)) _ _ (by omega) ?_
  intro o1 nx1 hle1 hB1 hk1
  have k1 : QKeep t o nx o1:=fun i j (hi : i < nx)=>hk1 i j (by omega)
  simp (disch:=omega) only[go_sem,h0,h6,h7,h11,hF]
  refine ⟨_,?_,i+1,_,by omega,rfl,by omega,hB1.new (fun _ _ _=>rfl) (by omega),hT,by simp only[BS.free_f,List.length_append,List.length_cons,List.length_nil];omega,hf'.keep k1 (by decide) (by decide) (by decide) (by omega),ht'.keep k1 (by decide) (by decide) (by decide) (by omega),rfl,by simp,by simp,hkp.trans k1 hnx⟩
  omega
 ·rw[aK5 (by omega),C2] at hT
  simp (disch:=omega) only[go_sem,h0,h6,h7,h11,hF]
  exact hQ _ _ _ (by omega) (hT ▸ hB.new (fun _ _ _=>rfl) (by omega)) (hf'.slot (fun _=>rfl) (by omega)) (ht'.slot (fun _=>rfl) (by omega)) (by simp (disch:=omega) only[go_sem,h6];simp) (by simp (disch:=omega) only[go_sem,h7];simp) hkp
theorem bK2 (X) : d9 (EX md0 X) (fun _=>none) 2 Tryz.f84 = true := by kernel_rfl
theorem ce2 {set lo hi : Int} {l : List Nd} (hk : ab8 l = true) (hl : 0 < l.length∧l.length≤1000) (hpart : ∀ x ∈ l,∀ t o nx b,QAt o nx t b false→QPre b→∃ v H',X7 [bp t,j5 x] ⟨o,nx⟩ v H') {t : Nat} {o : Ob} {nx : Nat} {b : BS} (h : QAt o nx t b false) (hp : QPre b) :
  ∃ v H',cz4 [bp t,j5 (.mk 4 set lo hi l)] ⟨o,nx⟩ v H':=by
 obtain ⟨cr,hcr⟩ : ∃ cr,cr = p8 am8:=⟨_,rfl⟩
 have hP : cr 59 = B1 X7:=by rw[hcr];rfl
 have hF : cr 93 = B1 aq8:=by rw[hcr];rfl
 have hbr : ab5 (m4 l) b = if (j6 (m4 l) b []).2.n > 1000 ∨ (j6 (m4 l) b []).1 = [] then ((0,0),(j6 (m4 l) b []).2) else ((((j6 (m4 l) b []).1.headD (0,0)).1,((j6 (m4 l) b []).1.getLastD (0,0)).2),(j6 (m4 l) b []).2.frees (Q8 (j6 (m4 l) b []).1)):=rfl
 obtain ⟨z,hz⟩ : ∃ z,z = ab5 (m4 l) b:=⟨_,rfl⟩
 rw[← hz] at hbr
 obtain ⟨v,H',h1,h2⟩:=D6 (E:=EX md0 (fun _ _=>none)) (cr:=cr) (z8 _) (hcr ▸ ar1) mixed (k:=3002) (args:=[bp t,j5 (.mk 4 set lo hi l)]) (o:=o) (nx:=nx) (Post:=fun v o' nx'=>cO2 z t v ⟨o,nx⟩ ⟨o',nx'⟩) Tryz.func84 (bK2 _) rfl (by
  clear hcr
  have hnew : ∀ y,∀ i j,i < nx→upd o (nx,3) y (i,j) = o (i,j):=fun y i j hi=>by simp (disch:=omega) only[B6]
  simp only[Tryz.f84,Option.getD_some]
  obtain ⟨c7,h7⟩ : ∃ c,c = u9 [1,1,1] (Tryz.f84.body.getD .skip):=⟨_,rfl⟩
  have h7':=h7
  simp only[Tryz.f84,Option.getD_some,u9] at h7'
  rw[← h7']
  clear h7'
  simp (disch:=omega) only[go_sem]
  refine bw7 (set:=set) (lo:=lo) (hi:=hi) (r:=nx) (b0:=b) (o0:=o) (nx0:=nx) hk hl.2 hpart hP (Nat.le_refl nx) (by omega) (by omega) (h.new (hnew _) (by omega)) hp (d8 _ _ _) (by simp (disch:=omega) only[go_sem]) (by simp (disch:=omega) only[go_sem]) (by simp (disch:=omega) only[go_sem]) (by simp (disch:=omega) only[go_sem]) (by simp (disch:=omega) only[go_sem]) (QKeep.new (hnew _)) ?_ ?_
  ·intro a o3 nx3 b3 out vf vt hnx3 hB3 hp3 hbp hout hf ht h6 h7a h0 k3
   rw[hbp] at hbr
   dsimp only at hbr
   have hnn:=hp3.n
   have hff:=hp3.f
   have hpos : 0 < out.length:=by omega
   rw[if_neg (fun h=>h.elim (fun h=>by omega) (fun h=>by rw[h] at hpos;simp at hpos))] at hbr
   rw[h7]
   simp only[Tryz.f84,Option.getD_some,u9]
   have hrow:=hB3
   obtain ⟨vS,vF,hrow⟩:=hrow
   replace hrow:=hrow.row
   simp (disch:=omega) only[go_sem,h0,h6,h7a,hrow]
   refine bw8 hF (p:=out) (T:=z.2) (b:=b3) (o0:=o) (nx0:=nx) (vf:=vf) (vt:=vt) (by omega) hpos (by omega) (hB3.new (fun _ _ _=>rfl) (by omega)) (by rw[hbr]) (by omega) (hf.slot (fun _=>rfl) (by omega)) (ht.slot (fun _=>rfl) (by omega)) (by simp (disch:=omega) only[go_sem]) ⟨by simp (disch:=omega) only[go_sem,h0],by simp (disch:=omega) only[go_sem,h6],by simp (disch:=omega) only[go_sem,h7a],k3⟩ ?_
   clear h0 h6 h7a hrow hf ht k3 hB3
   intro a o4 nx4 hnx4 hB4 hf ht h6 h7a k4
   rcases hf with ⟨_,e1,_⟩ | ⟨i1,g1,rfl,hi1,hrow1,hlen1⟩
   ·simp only[List.length_map] at e1;omega
   rcases ht with ⟨_,e1,_⟩ | ⟨i2,g2,rfl,hi2,hrow2,hlen2⟩
   ·simp only[List.length_map] at e1;omega
   simp only[List.length_map] at h6 h7a
   have g0:=aq9 (p:=out) (i:=0) hpos
   rw[List.drop_zero] at g0
   have g1':=aC9 (p:=out) (i:=out.length - 1) (by omega)
   simp (disch:=omega) only[go_sem,h6,h7a,hrow1,hrow2,g0,g1']
   have hz1 : z.1 = ((out.headD (0,0)).1,(out.getLastD (0,0)).2):=by rw[hbr]
   have hh : out.getD 0 (0,0) = out.headD (0,0):=by cases out <;> rfl
   have hll : out.getD (out.length - 1) (0,0) = out.getLastD (0,0):=by
    rw[List.getLastD_eq_getLast?,List.getLast?_eq_getElem?,List.getD_eq_getElem?_getD]
   rw[hh,hll]
   refine ⟨by dsimp only;omega,k4,_,_,rfl,.inl ⟨?_,hz1.symm,hB4.new (fun _ _ _=>rfl) (by dsimp only;omega)⟩⟩
   rw[hbr];exact hnn
  ·intro a o3 nx3 b3 hnx3 hB3 hn3 hmuch h0 k3
   rw[if_pos (.inl hmuch)] at hbr
   rw[h7]
   simp only[Tryz.f84,Option.getD_some,u9]
   have hrow:=hB3
   obtain ⟨vS,vF,hrow⟩:=hrow
   replace hrow:=hrow.row
   simp (disch:=omega) only[go_sem,h0,hrow]
   exact ⟨by dsimp only;omega,k3,0,0,rfl,.inr ⟨by rw[hbr];exact hmuch,b3,hn3,hB3.new (fun _ _ _=>rfl) (by dsimp only;omega)⟩⟩)
 refine ⟨v,H',h1,fun t' b' set' lo' hi' l' e hb=>?_⟩
 simp only[List.cons.injEq,AV.ptr.injEq,Prod.mk.injEq,AV.agg.injEq,and_true] at e
 obtain ⟨⟨rfl,_⟩,e2⟩:=e
 have e3:=K0 e2
 injection e3 with _ _ _ _ r4
 rw[← (h.same hb).1,← r4,← hz]
 exact h2
theorem bw9 {set lo hi : Int} {l : List Nd} (hk : ab8 l = true) (hl : 0 < l.length∧l.length≤1000) (hpart : ∀ x ∈ l,∀ t o nx b,QAt o nx t b false→QPre b→∃ v H',X7 [bp t,j5 x] ⟨o,nx⟩ v H') {t : Nat} {o : Ob} {nx : Nat} {b : BS} (h : QAt o nx t b false) (hp : QPre b) :
  ∃ v H',X7 [bp t,j5 (.mk 4 set lo hi l)] ⟨o,nx⟩ v H':=by
 obtain ⟨cr,hcr⟩ : ∃ cr,cr = p8 am8:=⟨_,rfl⟩
 have hJ : cr 84 = B1 cz4:=by rw[hcr];rfl
 have hbq : d7 (.mk 4 set lo hi l) b = ab5 (m4 l) b:=by rw[d7,aB9];rfl
 obtain ⟨v,H',h1,h2⟩:=D6 (E:=EX md0 (fun _ _=>none)) (cr:=cr) (z8 _) (hcr ▸ ar1) mixed (k:=3002) (args:=[bp t,j5 (.mk 4 set lo hi l)]) (o:=o) (nx:=nx) (Post:=fun v o' nx'=>cO2 (d7 (.mk 4 set lo hi l) b) t v ⟨o,nx⟩ ⟨o',nx'⟩) Tryz.func59 (aX2 _) rfl (by
  clear hcr
  rw[hbq]
  have hnew : ∀ y,∀ i j,i < nx→upd o (nx,3) y (i,j) = o (i,j):=fun y i j hi=>by simp (disch:=omega) only[B6]
  have hcn : cNd (.mk 4 set lo hi l) = [.int .i64 4,.int .i64 set,.int .i64 lo,.int .i64 hi,slN l]:=n7 ..
  have hrow:=h
  obtain ⟨vS,vF,hrow⟩:=hrow
  have htn:=hrow.lt
  replace hrow:=hrow.row
  simp only[Tryz.f59,Option.getD_some]
  simp (disch:=omega) only[go_sem,hJ,hrow]
  simp only[← hcn]
  have hBn : ∀ y n,nx≤n→QAt (upd o (nx,3) y) n t b false:=fun y n hn=>h.new (hnew y) hn
  refine F6 (ce2 hk hl hpart (hBn _ _ (by omega)) hp) fun v H' hr=>?_
  obtain ⟨g1,g2,s',e',rfl,g3⟩:=hr.2 t b set lo hi l rfl (hBn _ _ (by dsimp only;omega))
  obtain ⟨o5,nx5⟩:=H'
  dsimp only at g1 g2 g3
  simp (disch:=omega) only[go_sem]
  exact ⟨by dsimp only;omega,(QKeep.new (hnew _)).trans g2 (by omega),s',e',rfl,g3.imp (fun ⟨u1,u2,u3⟩=>⟨u1,u2,u3.new (fun _ _ _=>rfl) (by dsimp only;omega)⟩) (fun ⟨u1,b',u2,u3⟩=>⟨u1,b',u2,u3.new (fun _ _ _=>rfl) (by dsimp only;omega)⟩)⟩)
 refine ⟨v,H',h1,fun t' b' x' e hb=>?_⟩
 simp only[List.cons.injEq,AV.ptr.injEq,Prod.mk.injEq,AV.agg.injEq,and_true] at e
 obtain ⟨⟨rfl,_⟩,e2⟩:=e
 rw[← (h.same hb).1,← K0 e2]
 exact h2
mutual
theorem aX3 : ∀ (x : Nd),okQ x = true→∀ (t : Nat) (o : Ob) (nx : Nat) (b : BS),QAt o nx t b false→QPre b→∃ v H',X7 [bp t,j5 x] ⟨o,nx⟩ v H'
 | .mk kind set lo hi l,hk,t,o,nx,b,h,hp=>by
  have hl:=aK9 l
  have hk':=hk
  rw[okQ,Bool.and_eq_true] at hk'
  obtain ⟨hk1,hk2⟩:=hk'
  by_cases k4 : kind = 4
  ·rw[if_pos (.inl k4),decide_eq_true_eq] at hk2
   subst k4
   exact bw9 (aC8 l hk1) hk2 (hl hk1) h hp
  ·exact ce1 hk k4 (hl hk1) h hp
theorem aK9 : ∀ (l : List Nd),cd6 l = true→∀ x ∈ l,∀ (t : Nat) (o : Ob) (nx : Nat) (b : BS),QAt o nx t b false→QPre b→∃ v H',X7 [bp t,j5 x] ⟨o,nx⟩ v H'
 | [],_,x,hx=>by cases hx
 | y :: l,hk,x,hx=>by
  rw[cd6,Bool.and_eq_true] at hk
  rcases List.mem_cons.1 hx with e | hx
  ·have:=aX3 y hk.1
   rw[e];exact this
  ·exact aK9 l hk.2 x hx
end
set_option maxRecDepth 20000
theorem bx0 (X) : d9 (EX md0 X) (fun _=>none) 1 Tryz.f26 = true := by kernel_rfl
theorem bf6 : x8 Tryz.prog (p8 [(59,B1 X7)])∧Up (p8 [(59,B1 X7)]) :=
 m9 (C1 _) fun args H v H' h=>(u0 h).1
theorem bf7 {x : Nd} (hk : okQ x = true) : Ok Tryz.prog 26 [j5 x] (R0 (d7 x b0)) := by
 obtain ⟨cr,hcr⟩ : ∃ cr,cr = p8 [(59,B1 X7)]:=⟨_,rfl⟩
 have hP : cr 59 = B1 X7:=by rw[hcr];rfl
 refine m7 (E:=EX md0 (fun _ _=>none)) (cr:=cr) (z8 _) (hcr ▸ bf6) mixed (k:=0) Tryz.func26 (bx0 _) rfl ?_
 clear hcr
 simp only[Tryz.f26,Option.getD_some]
 simp (disch:=omega) only[go_sem,hP]
 have hB0 : QAt (upd (upd (upd (fun x=>none) (0,1) (.row ⟨28,1,(0,1),false,true,cNd x⟩)) (0,2) (.row ⟨62,1,(0,2),false,true,[.int .i64 0,.int .i64 0,.int .i64 0,.nil,.nil]⟩)) (1,8) (.row ⟨127,1,(1,8),false,true,[.int .i64 0,.int .i64 0,.int .i64 0,.nil,.nil,.bool false]⟩)) 3 1 b0 false :=
  ⟨.nil,.nil,by omega,d8 _ _ _,HS.nil,HS.nil⟩
 refine ag6 (aX3 x hk 1 _ _ b0 hB0 ⟨Nat.le_refl _,Nat.le_refl _,Nat.zero_le _⟩) hB0 ?_
 intro s e o1 nx1 hle1 hk1 hres
 have hx2 : o1 (0,2) = some (.row ⟨62,1,(0,2),false,true,[.int .i64 0,.int .i64 0,.int .i64 0,.nil,.nil]⟩):=by rw[hk1 _ _ (by omega) (fun e=>absurd e (by decide)) (by decide) (by decide)];simp[b9]
 clear hB0 hk1
 obtain ⟨r,hr⟩ : ∃ r,r = d7 x b0:=⟨_,rfl⟩
 rw[← hr] at hres ⊢
 rcases hres with ⟨u1,u2,u3⟩ | ⟨u1,b',u2,u3⟩
 ·have e1 : R0 r = .tup [Z0 r.2.n s e r.2.s r.2.f,.int .i64 0]:=by rw[R0,if_neg (by omega),← u2]
  rw[e1]
  obtain ⟨vS,vF,hB⟩:=u3
  have r1:=hB.lt
  have r2:=hB.row
  have r3:=hB.s.ok
  have r4:=hB.f.ok
  have s0:=aJ8 (x:=r.2.s) (y:=[])
  have f0:=au2 (x:=r.2.f) (y:=[])
  rcases hB.s with ⟨rfl,q2,q3⟩ | ⟨i1,g1,rfl,hi1,hrow,hlen⟩
  ·rcases hB.f with ⟨rfl,q5,q6⟩ | ⟨i2,g2,rfl,hi2,hrow2,hlen2⟩
   ·simp (disch:=omega) only[go_sem,hx2,r2]
    rw[s0 q3,f0 q6]
    rfl
   ·simp (disch:=omega) only[go_sem,hx2,r2,hrow2]
    rw[s0 q3]
    rfl
  ·rcases hB.f with ⟨rfl,q5,q6⟩ | ⟨i2,g2,rfl,hi2,hrow2,hlen2⟩
   ·simp (disch:=omega) only[go_sem,hx2,r2,hrow]
    rw[f0 q6]
    rfl
   ·simp (disch:=omega) only[go_sem,hx2,r2,hrow,hrow2]
 ·have e1 : R0 r = .tup [Z0 0 0 0 [] [],.int .i64 4]:=by rw[R0,if_pos u1]
  rw[e1]
  obtain ⟨vS,vF,hB⟩:=u3
  have r2:=hB.row
  simp (disch:=omega) only[go_sem,hx2,r2]
  rfl
set_option maxRecDepth 20000
def InN (n : Nat) (v : Int) : Prop := 0≤v∧v < (n : Int)
theorem InN.mono {n n' : Nat} {v : Int} (h : InN n v) (hn : n≤n') : InN n' v := ⟨h.1,by have := h.2;omega⟩
structure WB (b : BS) : Prop where
 f : ∀ p ∈ b.f,InN b.n p.1∧InN b.n p.2
 s : ∀ q ∈ b.s,InN b.n q.1∧InN b.n q.2.1∧1≤q.2.2∧q.2.2≤31
theorem WB.state {b : BS} (h : WB b) : WB b.state := ⟨fun p hp=>⟨(h.f p hp).1.mono (Nat.le_succ _),(h.f p hp).2.mono (Nat.le_succ _)⟩,fun q hq=>⟨(h.s q hq).1.mono (Nat.le_succ _),(h.s q hq).2.1.mono (Nat.le_succ _),(h.s q hq).2.2⟩⟩
theorem WB.frees {b : BS} (h : WB b) {l : List (Int × Int)} (hl : ∀ p ∈ l,InN b.n p.1∧InN b.n p.2) : WB (b.frees l) := ⟨fun p hp=>by
 rcases List.mem_append.1 hp with hp | hp
 ·exact h.f p hp
 ·exact hl p hp,h.s⟩
def ar2 (f : BF) : Prop := ∀ b,WB b→WB (f b).2∧InN (f b).2.n (f b).1.1∧InN (f b).2.n (f b).1.2∧b.n≤(f b).2.n
theorem ag7 : ∀ (fs : List BF) (b : BS) (out : List (Int × Int)),(∀ f ∈ fs,ar2 f)→WB b→(∀ p ∈ out,InN b.n p.1∧InN b.n p.2)→WB (j6 fs b out).2∧(∀ p ∈ (j6 fs b out).1,InN (j6 fs b out).2.n p.1∧InN (j6 fs b out).2.n p.2)∧b.n≤(j6 fs b out).2.n∧(fs ≠ []→0 < (j6 fs b out).2.n)
 | [],b,out,_,hb,ho=>⟨hb,ho,Nat.le_refl _,fun h=>absurd rfl h⟩
 | f :: fs,b,out,hf,hb,ho=>by
  rw[j6]
  by_cases hn : b.n > 1000
  ·rw[if_pos hn]
   exact ⟨hb,fun p hp=>(by cases hp),Nat.le_refl _,fun _=>by show 0 < b.n;omega⟩
  ·rw[if_neg hn]
   obtain ⟨h1,h2,h3,h4⟩:=hf f List.mem_cons_self b hb
   obtain ⟨g1,g2,g3,_⟩:=ag7 fs (f b).2 (out++[(f b).1]) (fun g hg=>hf g (List.mem_cons_of_mem _ hg)) h1 (fun p hp=>by
    rcases List.mem_append.1 hp with hp | hp
    ·exact ⟨(ho p hp).1.mono h4,(ho p hp).2.mono h4⟩
    ·rw[List.mem_singleton.1 hp];exact ⟨h2,h3⟩)
   exact ⟨g1,g2,Nat.le_trans h4 g3,fun _=>by have:=h2.1;have:=h2.2;omega⟩
theorem bf8 (n : Nat) : InN (n+1) (n : Int) := ⟨by omega,by omega⟩
theorem aD3 {f : BF} (hf : ar2 f) (ar bk : Bool) : ar2 (aa8 f ar bk) := by
 intro b hb
 obtain ⟨h1,h2,h3,h4⟩:=hf b.state hb.state
 have e1 : b.state.n = b.n+1:=rfl
 have e2 : (f b.state).2.state.n = (f b.state).2.n+1:=rfl
 have i0 : InN (f b.state).2.state.n (b.n : Int):=⟨by omega,by rw[e2];omega⟩
 have i1 : InN (f b.state).2.state.n ((f b.state).2.n : Int):=by rw[e2];exact bf8 _
 have i2:=h2.mono (n':=(f b.state).2.state.n) (by rw[e2];omega)
 have i3:=h3.mono (n':=(f b.state).2.state.n) (by rw[e2];omega)
 refine ⟨h1.state.frees (fun p hp=>?_),i0,i1,by show b.n≤(f b.state).2.n+1;omega⟩
 simp only[List.mem_append] at hp
 rcases hp with ((hp | hp) | hp) | hp
 ·rw[List.mem_singleton.1 hp];exact ⟨i0,i2⟩
 ·split at hp
  ·rw[List.mem_singleton.1 hp];exact ⟨i0,i1⟩
  ·cases hp
 ·split at hp
  ·rw[List.mem_singleton.1 hp];exact ⟨i3,i2⟩
  ·cases hp
 ·rw[List.mem_singleton.1 hp];exact ⟨i3,i1⟩
theorem aL0 {n : Nat} : ∀ (l : List (Int × Int)),(∀ p ∈ l,InN n p.1∧InN n p.2)→∀ p ∈ Q8 l,InN n p.1∧InN n p.2
 | [],_,p,hp=>by rw[Q8] at hp;cases hp;intro _ _ _ h;cases h
 | [_],_,p,hp=>by rw[Q8] at hp;cases hp;intro _ _ _ h;cases h
 | a :: b :: l,h,p,hp=>by
  rw[Q8] at hp
  rcases List.mem_cons.1 hp with rfl | hp
  ·exact ⟨(h a List.mem_cons_self).2,(h b (List.mem_cons_of_mem _ List.mem_cons_self)).1⟩
  ·exact aL0 (b :: l) (fun p hp=>h p (List.mem_cons_of_mem _ hp)) p hp
theorem aD4 {n : Nat} {lo e : Int} (he : InN n e) : ∀ (i : Nat) (l : List (Int × Int)),(∀ p ∈ l,InN n p.1∧InN n p.2)→∀ p ∈ x7 lo e i l,InN n p.1∧InN n p.2
 | i,[],_,p,hp=>by rw[x7] at hp;cases hp
 | i,[a],h,p,hp=>by rw[x7] at hp;rw[List.mem_singleton.1 hp];exact ⟨(h a List.mem_cons_self).2,he⟩
 | i,a :: b :: l,h,p,hp=>by
  rw[x7] at hp
  rcases List.mem_append.1 hp with hp | hp
  ·split at hp
   ·rw[List.mem_singleton.1 hp];exact ⟨(h a List.mem_cons_self).2,he⟩
   ·cases hp
  ·rcases List.mem_cons.1 hp with rfl | hp
   ·exact ⟨(h a List.mem_cons_self).2,(h b (List.mem_cons_of_mem _ List.mem_cons_self)).1⟩
   ·exact aD4 he (i+1) (b :: l) (fun p hp=>h p (List.mem_cons_of_mem _ hp)) p hp
theorem ce3 {f : BF} (hf : ar2 f) (lo : Int) (k : Nat) : ar2 (C8 lo k f) := by
 intro b hb
 obtain ⟨h1,h2,h3,_⟩:=ag7 (List.replicate k f) b.state [] (fun g hg=>by rw[List.eq_of_mem_replicate hg];exact hf) hb.state (fun p hp=>by cases hp)
 have hbr : C8 lo k f b = if (j6 (List.replicate k f) b.state []).2.state.n > 1000 then (((b.n : Int),((j6 (List.replicate k f) b.state []).2.n : Int)),(j6 (List.replicate k f) b.state []).2.state) else (((b.n : Int),((j6 (List.replicate k f) b.state []).2.n : Int)),(j6 (List.replicate k f) b.state []).2.state.frees (O2 b.n (j6 (List.replicate k f) b.state []).1++x7 lo (j6 (List.replicate k f) b.state []).2.n 0 (j6 (List.replicate k f) b.state []).1++(if lo = 0 then [((b.n : Int),((j6 (List.replicate k f) b.state []).2.n : Int))] else []))):=rfl
 obtain ⟨r,hr⟩ : ∃ r,r = j6 (List.replicate k f) b.state []:=⟨_,rfl⟩
 rw[← hr] at h1 h2 h3 hbr
 have e1 : b.state.n = b.n+1:=rfl
 have e2 : r.2.state.n = r.2.n+1:=rfl
 have i0 : InN r.2.state.n (b.n : Int):=⟨by omega,by rw[e2];omega⟩
 have i1 : InN r.2.state.n (r.2.n : Int):=by rw[e2];exact bf8 _
 have h2' : ∀ p ∈ r.1,InN r.2.state.n p.1∧InN r.2.state.n p.2:=fun p hp=>⟨(h2 p hp).1.mono (by rw[e2];omega),(h2 p hp).2.mono (by rw[e2];omega)⟩
 rw[hbr]
 split
 ·exact ⟨h1.state,i0,i1,by show b.n≤r.2.n+1;omega⟩
 ·refine ⟨h1.state.frees (fun p hp=>?_),i0,i1,by show b.n≤r.2.n+1;omega⟩
  rcases List.mem_append.1 hp with hp | hp
  ·rcases List.mem_append.1 hp with hp | hp
   ·cases hr1 : r.1 with
    | nil=>rw[hr1] at hp;cases hp
    | cons a l =>
     rw[hr1] at hp h2'
     rw[List.mem_singleton.1 hp]
     exact ⟨i0,(h2' a List.mem_cons_self).1⟩
   ·exact aD4 i1 0 r.1 h2' p hp
  ·split at hp
   ·rw[List.mem_singleton.1 hp];exact ⟨i0,i1⟩
   ·cases hp
theorem bx1 {fs : List BF} (hf : ∀ f ∈ fs,ar2 f) : ar2 (ad4 fs) := by
 intro b hb
 obtain ⟨h1,h2,h3,_⟩:=ag7 fs b.state [] hf hb.state (fun p hp=>by cases hp)
 have hbr : ad4 fs b = (((b.n : Int),((j6 fs b.state []).2.n : Int)),(j6 fs b.state []).2.state.frees (W3 b.n (j6 fs b.state []).2.n (j6 fs b.state []).1)):=rfl
 obtain ⟨r,hr⟩ : ∃ r,r = j6 fs b.state []:=⟨_,rfl⟩
 rw[← hr] at h1 h2 h3 hbr
 have e1 : b.state.n = b.n+1:=rfl
 have e2 : r.2.state.n = r.2.n+1:=rfl
 have i0 : InN r.2.state.n (b.n : Int):=⟨by omega,by rw[e2];omega⟩
 have i1 : InN r.2.state.n (r.2.n : Int):=by rw[e2];exact bf8 _
 rw[hbr]
 refine ⟨h1.state.frees (fun p hp=>?_),i0,i1,by show b.n≤r.2.n+1;omega⟩
 obtain ⟨q,hq,hp⟩:=List.mem_flatMap.1 hp
 have q1:=(h2 q hq).1.mono (n':=r.2.state.n) (by rw[e2];omega)
 have q2:=(h2 q hq).2.mono (n':=r.2.state.n) (by rw[e2];omega)
 rcases List.mem_cons.1 hp with rfl | hp
 ·exact ⟨i0,q1⟩
 ·rw[List.mem_singleton.1 hp];exact ⟨q2,i1⟩
theorem aX4 {α : Type} {l : List α} (h : l ≠ []) (d : α) : l.getLastD d ∈ l := by
 rw[List.getLastD_eq_getLast?,List.getLast?_eq_some_getLast h]
 exact List.getLast_mem h
theorem bK3 {fs : List BF} (hf : ∀ f ∈ fs,ar2 f) (hne : fs ≠ []) : ar2 (ab5 fs) := by
 intro b hb
 obtain ⟨h1,h2,h3,h4⟩:=ag7 fs b [] hf hb (fun p hp=>by cases hp)
 have hbr : ab5 fs b = if (j6 fs b []).2.n > 1000 ∨ (j6 fs b []).1 = [] then ((0,0),(j6 fs b []).2) else ((((j6 fs b []).1.headD (0,0)).1,((j6 fs b []).1.getLastD (0,0)).2),(j6 fs b []).2.frees (Q8 (j6 fs b []).1)):=rfl
 obtain ⟨r,hr⟩ : ∃ r,r = j6 fs b []:=⟨_,rfl⟩
 rw[← hr] at h1 h2 h3 h4 hbr
 have hpos:=h4 hne
 rw[hbr]
 split
 ·exact ⟨h1,⟨Int.le_refl _,by show (0 : Int) < r.2.n;omega⟩,⟨Int.le_refl _,by show (0 : Int) < r.2.n;omega⟩,h3⟩
 ·rename_i hc
  have hne' : r.1 ≠ []:=fun e=>hc (.inr e)
  refine ⟨h1.frees (aL0 r.1 h2),?_,?_,h3⟩
  ·cases hr1 : r.1 with
   | nil=>exact absurd hr1 hne'
   | cons a l=>rw[hr1] at h2;exact (h2 a List.mem_cons_self).1
  ·exact (h2 _ (aX4 hne' _)).2
mutual
def okS : Nd→Bool
 | .mk kind set _ _ l=>bW8 l && (if kind = 1 then decide (1≤set∧set≤31) else true)
def bW8 : List Nd→Bool
 | []=>true
 | x :: l=>okS x && bW8 l
end
theorem bK4 {kind set : Int} (h : kind = 1→1≤set∧set≤31) : ar2 (aq4 kind set) := by
 intro b hb
 have i0 : InN (b.n+1+1) (b.n : Int):=⟨by omega,by omega⟩
 have i1 : InN (b.n+1+1) ((b.n : Int)+1):=⟨by omega,by omega⟩
 have hw:=hb.state.state
 unfold aq4
 dsimp only
 by_cases k1 : kind = 1
 ·rw[if_pos k1]
  refine ⟨⟨hw.f,fun q hq=>?_⟩,i0,i1,by show b.n≤b.n+1+1;omega⟩
  rcases List.mem_append.1 hq with hq | hq
  ·exact hw.s q hq
  ·rw[List.mem_singleton.1 hq];exact ⟨i0,i1,h k1⟩
 rw[if_neg k1]
 split
 ·refine ⟨⟨fun p hp=>?_,hw.s⟩,i0,i1,by show b.n≤b.n+1+1;omega⟩
  rcases List.mem_append.1 hp with hp | hp
  ·exact hw.f p hp
  ·rw[List.mem_singleton.1 hp];exact ⟨i0,i1⟩
 ·exact ⟨hw,i0,i1,by show b.n≤b.n+1+1;omega⟩
mutual
theorem aX5 : ∀ (x : Nd),okN x = true→okS x = true→ar2 (d7 x)
 | .mk kind set lo hi l,hk,hs=>by
  rw[okN,Bool.and_eq_true] at hk
  rw[okS,Bool.and_eq_true] at hs
  obtain ⟨hk1,hk2⟩:=hk
  have hl:=aD5 l hk1 hs.1
  rw[d7]
  have hd : 0 < l.length→ar2 ((m4 l).headD fun b=>((0,0),b)):=fun h=>by
   cases l with
   | nil=>exact absurd h (by simp)
   | cons x l=>exact hl _ (by rw[m4];exact List.mem_cons_self)
  have hne : 0 < l.length→m4 l ≠ []:=fun h e=>by
   have:=congrArg List.length e
   rw[R5] at this
   simp only[List.length_nil] at this;omega
  unfold aB9
  by_cases k4 : kind = 4
  ·rw[if_pos k4]
   rw[if_pos (.inl k4),decide_eq_true_eq] at hk2
   exact bK3 hl (hne hk2.1)
  by_cases k5 : kind = 5
  ·rw[if_neg k4,if_pos k5]
   exact bx1 hl
  by_cases k6 : kind = 6
  ·rw[if_neg k4,if_neg k5,if_pos k6]
   rw[if_pos (.inr (.inr (.inl k6))),decide_eq_true_eq] at hk2
   exact aD3 (hd hk2.1) _ _
  by_cases k7 : kind = 7
  ·rw[if_neg k4,if_neg k5,if_neg k6,if_pos k7]
   rw[if_pos (.inr (.inr (.inr (.inl k7)))),decide_eq_true_eq] at hk2
   exact aD3 (hd hk2.1) _ _
  by_cases k8 : kind = 8
  ·rw[if_neg k4,if_neg k5,if_neg k6,if_neg k7,if_pos k8]
   rw[if_pos (.inr (.inr (.inr (.inr k8)))),decide_eq_true_eq] at hk2
   exact aD3 (hd hk2.1) _ _
  by_cases k9 : kind = 9
  ·rw[if_neg k4,if_neg k5,if_neg k6,if_neg k7,if_neg k8,if_pos k9]
   rw[if_neg (by omega),if_pos k9,decide_eq_true_eq] at hk2
   exact ce3 (hd hk2.1) _ _
  rw[if_neg k4,if_neg k5,if_neg k6,if_neg k7,if_neg k8,if_neg k9]
  exact bK4 (fun k1=>by have:=hs.2;rw[if_pos k1,decide_eq_true_eq] at this;exact this)
theorem aD5 : ∀ (l : List Nd),ab8 l = true→bW8 l = true→∀ f ∈ m4 l,ar2 f
 | [],_,_,f,hf=>by rw[m4] at hf;cases hf
 | x :: l,hk,hs,f,hf=>by
  rw[ab8,Bool.and_eq_true] at hk
  rw[bW8,Bool.and_eq_true] at hs
  rw[m4] at hf
  rcases List.mem_cons.1 hf with e | hf
  ·have:=aX5 x hk.1 hs.1
   rw[e];exact this
  ·exact aD5 l hk.2 hs.2 f hf
end
theorem wb0 : WB b0 := ⟨fun p hp=>(by cases hp),fun q hq=>(by cases hq)⟩
theorem aO7 {x : Nd} (hk : okN x = true) (hs : okS x = true) (hn : (d7 x b0).2.n≤1000) : Wf (d7 x b0).2.n (d7 x b0).1.1 (d7 x b0).1.2 (d7 x b0).2.s (d7 x b0).2.f∧(d7 x b0).2.s.length≤1000 := by
 obtain ⟨hw,h1,h2,_⟩:=aX5 x hk hs b0 wb0
 have hbd:=ad9 x hk b0
 have b4:=hbd.f4
 have b5:=hbd.s1
 have z1 : b0.n = 0:=rfl
 have z2 : b0.f.length = 0:=rfl
 have z3 : b0.s.length = 0:=rfl
 exact ⟨⟨hn,h1,h2,by omega,by omega,fun p hp=>⟨(hw.s p hp).1,(hw.s p hp).2.1⟩,fun p hp=>hw.f p hp⟩,by omega⟩
end Go.Proofs.YtpmjpogcaglphaaGreatDoor.A
