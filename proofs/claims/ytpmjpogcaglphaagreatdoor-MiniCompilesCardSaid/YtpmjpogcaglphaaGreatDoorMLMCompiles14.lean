/- The document's builder: its small methods. -/
import Derived.Test.YtpmjpogcaglphaaGreatDoorMLMCompiles13
set_option linter.unusedVariables false
set_option linter.unusedSimpArgs false
set_option linter.unnecessarySimpa false
namespace Go.Proofs.YtpmjpogcaglphaaGreatDoor.A
open Go
set_option maxRecDepth 20000
structure QRowC (o : Ob) (nx : Nat) (t : Nat) (b : BS) (m : Bool) (vS vF : AV) : Prop where
 lt : t < nx
 row : o (t,8) = some (.row ⟨127,1,(t,8),false,true,[.int .i64 b.n,.int .i64 0,.int .i64 0,vS,vF,.bool m]⟩)
 s : HS 117 3 29 o nx vS b.s.length (cS b.s)
 f : HS 164 2 16 o nx vF b.f.length (cP b.f)
def QAt (o : Ob) (nx : Nat) (t : Nat) (b : BS) (m : Bool) : Prop := ∃ vS vF,QRowC o nx t b m vS vF
def QKeep (t : Nat) (o : Ob) (nx : Nat) (o' : Ob) : Prop := ∀ i j,i < nx→(j = 8→i ≠ t)→j ≠ 29→j ≠ 16→o' (i,j) = o (i,j)
theorem QKeep.refl (t o nx) : QKeep t o nx o := fun _ _ _ _ _ _=>rfl
theorem QKeep.trans {t o nx o' nx' o''} (h1 : QKeep t o nx o') (h2 : QKeep t o' nx' o'') (h : nx≤nx') : QKeep t o nx o'' := fun i j a b c d=>by rw[h2 i j (by omega) b c d,h1 i j a b c d]
theorem QKeep.new {t o nx o'} (ho : ∀ i j,i < nx→o' (i,j) = o (i,j)) : QKeep t o nx o' := fun i j hi _ _ _=>ho i j hi
theorem QKeep.row {t o nx o'} (h : QKeep t o nx o') {i j : Nat} {x : Option AObj} (hx : o (i,j) = x) (hi : i < nx) (h1 : j = 8→i ≠ t) (h2 : j ≠ 29) (h3 : j ≠ 16) : o' (i,j) = x := (h i j hi h1 h2 h3).trans hx
theorem aW7 {t : Nat} {o : Ob} {nx : Nat} {x : AObj} : QKeep t o nx (upd o (t,8) x) := fun i j hi h1 h2 h3=>G9 _ _ _ _ (fun e=>by injection e with e1 e2;exact h1 e2 e1)
theorem QAt.new {o nx t b m} (h : QAt o nx t b m) {o' : Ob} {nx' : Nat} (ho : ∀ i j,i < nx→o' (i,j) = o (i,j)) (hn : nx≤nx') : QAt o' nx' t b m := by
 obtain ⟨vS,vF,h⟩:=h
 exact ⟨vS,vF,⟨by have:=h.lt;omega,by rw[ho _ _ h.lt];exact h.row,h.s.keep (fun i hi=>ho i _ hi) hn,h.f.keep (fun i hi=>ho i _ hi) hn⟩⟩
theorem QAt.slot {o nx t b m} (h : QAt o nx t b m) {o' : Ob} {nx' : Nat} (ho : ∀ i j,(j = 8∧i = t ∨ j = 29 ∨ j = 16)→o' (i,j) = o (i,j)) (hn : nx≤nx') : QAt o' nx' t b m := by
 obtain ⟨vS,vF,h⟩:=h
 exact ⟨vS,vF,⟨by have:=h.lt;omega,by rw[ho _ _ (.inl ⟨rfl,rfl⟩)];exact h.row,h.s.keep (fun i hi=>ho i _ (.inr (.inl rfl))) hn,h.f.keep (fun i hi=>ho i _ (.inr (.inr rfl))) hn⟩⟩
theorem QAt.eq {o nx t b b' m} (h : QAt o nx t b m) (e : b = b') : QAt o nx t b' m := e ▸ h
theorem QAt.same {o nx t b m} (h : QAt o nx t b m) {b' m'} (h' : QAt o nx t b' m') : b = b'∧m = m' := by
 obtain ⟨vS,vF,h⟩:=h
 obtain ⟨vS',vF',h'⟩:=h'
 have:=h.row.symm.trans h'.row
 simp only[Option.some.injEq,AObj.row.injEq,Row.mk.injEq,List.cons.injEq,AV.int.injEq,AV.bool.injEq,and_true,true_and] at this
 obtain ⟨e1,rfl,rfl,e4⟩:=this
 have e2:=aJ8 (h.s.same h'.s)
 have e3:=au2 (h.f.same h'.f)
 have e1 : b.n = b'.n:=by omega
 refine ⟨?_,e4⟩
 cases b;cases b'
 simp only at e1 e2 e3
 rw[e1,e2,e3]
def QTo (t : Nat) (b' : BS) (m' : Bool) (H H' : AH) : Prop := H.nx≤H'.nx∧QAt H'.o H'.nx t b' m'∧QKeep t H.o H.nx H'.o
def K5 (b : BS) (m : Bool) : Int × BS × Bool := if b.n ≥ 1000 then (0,b,true) else (b.n,b.state,m)
def bm5 (args : List AV) (H : AH) (v : AV) (H' : AH) : Prop := OkR Tryz.prog 85 args H v H'∧∀ t b m,args = [bp t]→QAt H.o H.nx t b m→v = .int .i64 (K5 b m).1∧QTo t (K5 b m).2.1 (K5 b m).2.2 H H'
theorem bw0 (X) : d9 (EX md0 X) (fun _=>none) 1 Tryz.f85 = true := by kernel_rfl
theorem bJ4 {t : Nat} {o : Ob} {nx : Nat} {b : BS} {m : Bool} (h : QAt o nx t b m) (hn : b.n≤1000) : ∃ v H',bm5 [bp t] ⟨o,nx⟩ v H' := by
 have hh:=h
 obtain ⟨vS,vF,h⟩:=h
 obtain ⟨v,H',h1,h2⟩:=D6 (E:=EX md0 (fun _ _=>none)) (cr:=noR) (z8 _) (q7 _) mixed (k:=0) (args:=[bp t]) (o:=o) (nx:=nx) (Post:=fun v o' nx'=>v = .int .i64 (K5 b m).1∧QTo t (K5 b m).2.1 (K5 b m).2.2 ⟨o,nx⟩ ⟨o',nx'⟩) Tryz.func85 (bw0 _) rfl (by
  have h1:=h.lt
  have h2:=h.row
  have h3:=h.s.ok
  have h4:=h.f.ok
  simp only[Tryz.f85,Option.getD_some]
  by_cases hb : (1000 : Int)≤b.n
  ·have e : K5 b m = (0,b,true):=if_pos (by omega)
   rw[e]
   simp (disch:=omega) only[go_sem,h2,h3,h4,hb]
   exact ⟨by show nx≤nx+1+1+1+1;omega,⟨vS,vF,⟨by show t < nx+1+1+1+1;omega,d8 _ _ _,h.s.keep (fun _ _=>by simp[b9]) (by show nx≤nx+1+1+1+1;omega),h.f.keep (fun _ _=>by simp[b9]) (by show nx≤nx+1+1+1+1;omega)⟩⟩,aW7⟩
  ·have e : K5 b m = ((b.n : Int),b.state,m):=if_neg (by omega)
   rw[e]
   simp (disch:=omega) only[go_sem,h2,h3,h4,hb]
   refine ⟨by rw[Int.add_sub_cancel],by show nx≤nx+1+1+1+1;omega,⟨vS,vF,⟨by show t < nx+1+1+1+1;omega,?_,h.s.keep (fun _ _=>by simp[b9]) (by show nx≤nx+1+1+1+1;omega),h.f.keep (fun _ _=>by simp[b9]) (by show nx≤nx+1+1+1+1;omega)⟩⟩,aW7⟩
   exact d8 _ _ _)
 refine ⟨v,H',h1,fun t' b' m' e hb=>?_⟩
 simp only[List.cons.injEq,AV.ptr.injEq,Prod.mk.injEq,and_true] at e
 obtain rfl:=e.1
 obtain ⟨rfl,rfl⟩:=hh.same hb
 exact h2
theorem aj5 {t : Nat} {o : Ob} {nx : Nat} {b : BS} {m : Bool} {K : AV × AH→Prop} (h : QAt o nx t b m) (hn : b.n≤1000) (hK : ∀ o' nx',nx≤nx'→QAt o' nx' t (K5 b m).2.1 (K5 b m).2.2→QKeep t o nx o'→K (.int .i64 (K5 b m).1,⟨o',nx'⟩)) :
  wO (Option.map (fun p=>t8 false p.1 p.2) (B1 bm5 [bp t] ⟨o,nx⟩)) K:=by
 refine F6 (bJ4 h hn) fun v H' hr=>?_
 obtain ⟨rfl,h1,h2,h3⟩:=hr.2 t b m rfl h
 exact hK H'.o H'.nx h1 h2 h3
def aq8 (args : List AV) (H : AH) (v : AV) (H' : AH) : Prop := OkR Tryz.prog 93 args H v H'∧∀ t b m x y,args = [bp t,.int .i64 x,.int .i64 y]→QAt H.o H.nx t b m→v = .tup []∧QTo t (b.free x y) m H H'
theorem bJ5 (X) : d9 (EX md0 X) (fun _=>none) 3 Tryz.f93 = true := by kernel_rfl
theorem cd7 {t : Nat} {o : Ob} {nx : Nat} {b : BS} {m : Bool} (h : QAt o nx t b m) (x y : Int) (hn : b.f.length≤100000000) : ∃ v H',aq8 [bp t,.int .i64 x,.int .i64 y] ⟨o,nx⟩ v H' := by
 have hh:=h
 obtain ⟨vS,vF,h⟩:=h
 obtain ⟨v,H',h1,h2⟩:=D6 (E:=EX md0 (fun _ _=>none)) (cr:=noR) (z8 _) (q7 _) mixed (k:=0) (args:=[bp t,.int .i64 x,.int .i64 y]) (o:=o) (nx:=nx) (Post:=fun v o' nx'=>v = .tup []∧QTo t (b.free x y) m ⟨o,nx⟩ ⟨o',nx'⟩) Tryz.func93 (bJ5 _) rfl (by
  have h0:=h.lt
  have h2:=h.row
  have h3:=h.s.ok
  have h4:=h.f.ok
  have hs:=h.s
  simp only[Tryz.f93,Option.getD_some]
  rcases h.f with ⟨rfl,e2,e3⟩ | ⟨i1,g1,rfl,hi1,hrow,hlen⟩
  ·simp (disch:=omega) only[go_sem,h2,h3,h4]
   refine ⟨rfl,by show nx≤nx+1;omega,⟨vS,_,⟨by show t < nx+1;omega,d8 _ _ _,hs.keep (fun _ _=>by simp[b9]) (by show nx≤nx+1;omega),.inr ⟨nx,(nx,16),by simp[BS.free,e2],by show _ < nx+1;omega,?_,?_⟩⟩⟩,?_⟩
   ·simp[b9,BS.free,cP,List.length_eq_zero_iff.1 e2]
   ·simp[BS.free,L4]
   ·intro i j hi a1 a2 a3
    have : i ≠ nx:=by have : i < nx:=hi;omega
    simp (disch:=omega) [b9,this,a3,a2]
    intro hj
    have:=a1 hj
    simp[this,hj]
  ·simp (disch:=omega) only[go_sem,h2,h3,h4,hrow]
   refine ⟨rfl,by show nx≤nx+1;omega,⟨vS,_,⟨by show t < nx+1;omega,d8 _ _ _,hs.keep (fun _ _=>by simp[b9]) (by show nx≤nx+1;omega),.inr ⟨i1,(nx,16),by simp[BS.free],by show _ < nx+1;omega,?_,?_⟩⟩⟩,?_⟩
   ·simp[b9,BS.free,cP]
   ·simp[BS.free,L4]
   ·intro i j hi a1 a2 a3
    have : i ≠ nx:=by have : i < nx:=hi;omega
    simp (disch:=omega) [b9,this,a3,a2]
    intro hj
    have:=a1 hj
    simp[this,hj])
 refine ⟨v,H',h1,fun t' b' m' x' y' e hb=>?_⟩
 simp only[List.cons.injEq,AV.ptr.injEq,Prod.mk.injEq,AV.int.injEq,and_true,true_and] at e
 obtain ⟨⟨rfl,_⟩,rfl,rfl⟩:=e
 obtain ⟨rfl,rfl⟩:=hh.same hb
 exact h2
theorem E6 {t : Nat} {o : Ob} {nx : Nat} {b : BS} {m : Bool} {K : AV × AH→Prop} (h : QAt o nx t b m) (x y : Int) (hn : b.f.length≤100000000) (hK : ∀ o' nx',nx≤nx'→QAt o' nx' t (b.free x y) m→QKeep t o nx o'→K (.tup [],⟨o',nx'⟩)) :
  wO (Option.map (fun p=>t8 false p.1 p.2) (B1 aq8 [bp t,.int .i64 x,.int .i64 y] ⟨o,nx⟩)) K:=by
 refine F6 (cd7 h x y hn) fun v H' hr=>?_
 obtain ⟨rfl,h1,h2,h3⟩:=hr.2 t b m x y rfl h
 exact hK H'.o H'.nx h1 h2 h3
set_option maxRecDepth 20000
def IAt (D : Nat) (o : Ob) (nx : Nat) (v : AV) (l : List Int) : Prop := HS 3 1 D o nx v l.length (cI l)
theorem IAt.keep {D o nx v l} (h : IAt D o nx v l) {t o' nx'} (hk : QKeep t o nx o') (h8 : D ≠ 8) (h29 : D ≠ 29) (h16 : D ≠ 16) (hn : nx≤nx') : IAt D o' nx' v l := HS.keep h (fun i hi=>hk i D hi (fun e=>absurd e h8) h29 h16) hn
theorem IAt.slot {D o nx v l} (h : IAt D o nx v l) {o' : Ob} {nx' : Nat} (ho : ∀ i,o' (i,D) = o (i,D)) (hn : nx≤nx') : IAt D o' nx' v l := HS.keep h (fun i _=>ho i) hn
theorem IAt.same {D o nx v l l'} (h : IAt D o nx v l) (h' : IAt D o nx v l') : l = l' := V7 (HS.same h h')
abbrev Q1 (p : List (Int × Int)) : List Int := p.map (·.1)
abbrev Q2 (p : List (Int × Int)) : List Int := p.map (·.2)
theorem aq9 {p : List (Int × Int)} {i : Nat} (h : i < p.length) : N4 false 1 ((cI (Q1 p)).drop i) = some (.int .i64 (p.getD i (0,0)).1) := by
 rw[P6 (by simpa using h)];simp[List.getD,h]
theorem aC9 {p : List (Int × Int)} {i : Nat} (h : i < p.length) : N4 false 1 ((cI (Q2 p)).drop i) = some (.int .i64 (p.getD i (0,0)).2) := by
 rw[P6 (by simpa using h)];simp[List.getD,h]
theorem aO6 : ∀ {p q : List (Int × Int)},Q1 p = Q1 q→Q2 p = Q2 q→p = q
 | [],[],_,_=>rfl
 | [],_ :: _,h,_=>by cases h
 | _ :: _,[],h,_=>by cases h
 | (a,b) :: p,(c,d) :: q,h1,h2=>by
  simp only[Q1,Q2,List.map_cons,List.cons.injEq] at h1 h2
  rw[aO6 h1.2 h2.2,h1.1,h2.1]
def cq5 (lo : Int) (s e : Int) (p : List (Int × Int)) : List (Int × Int) := O2 s p++x7 lo e 0 p++(if lo = 0 then [(s,e)] else [])
def dC5 (args : List AV) (H : AH) (v : AV) (H' : AH) : Prop := OkR Tryz.prog 94 args H v H'∧∀ t b kind set lo hi l s e vf vt p,args = [bp t,j5 (.mk kind set lo hi l),.int .i64 s,.int .i64 e,vf,vt]→IAt 70 H.o H.nx vf (Q1 p)→IAt 74 H.o H.nx vt (Q2 p)→QAt H.o H.nx t b false→v = .tup []∧QTo t (b.frees (cq5 lo s e p)) false H H'
theorem cd8 (X) : d9 (EX md0 X) (fun _=>none) 6 Tryz.f94 = true := by kernel_rfl
theorem bJ6 : x8 Tryz.prog (p8 [(93,B1 aq8)])∧Up (p8 [(93,B1 aq8)]) :=
 m9 (C1 _) fun args H v H' h=>(u0 h).1
theorem bJ7 {cr : v8} (hF : cr 93 = B1 aq8) {kind set lo hi s e : Int} {l : List Nd} {t r : Nat} {o0 : Ob} {nx0 : Nat} {T b : BS} {p : List (Int × Int)} {vf vt : AV} {a : v6} {o : Ob} {nx : Nat} {Q : s8} (hlo : 0≤lo∧lo≤10) (hlen : p.length≤1000) (hr : nx0≤r) (hrn : r < nx) (hnx : nx0≤nx) (hB : QAt o nx t b false) (hT : b.frees (x7 lo e 0 p) = T) (hbf : b.f.length≤1000000) (hf : IAt 70 o nx vf (Q1 p)) (ht : IAt 74 o nx vt (Q2 p)) (ho7 : o (r,7) = some (.row ⟨28,1,(r,7),false,true,[.int .i64 kind,.int .i64 set,.int .i64 lo,.int .i64 hi,slN l]⟩)) (h12 : a 12 = .int .i64 0)
  (hmore : a 0 = bp t∧a 2 = .int .i64 s∧a 3 = .int .i64 e∧a 4 = vf∧a 5 = vt∧a 7 = .ptr (r,7) (r,7) 0∧QKeep t o0 nx0 o)
  (hQ : ∀ a o nx,nx0≤nx→r < nx→o (r,7) = some (.row ⟨28,1,(r,7),false,true,[.int .i64 kind,.int .i64 set,.int .i64 lo,.int .i64 hi,slN l]⟩)→QAt o nx t T false→a 0 = bp t→a 2 = .int .i64 s→a 3 = .int .i64 e→a 7 = .ptr (r,7) (r,7) 0→QKeep t o0 nx0 o→Q .normal a o nx) :
  WP (EX md0 (fun _ _=>none)) cr 3002 (fun _=>none) (u9 [1,1,0,1,0] (Tryz.f94.body.getD .skip)) a o nx (I8 0 Q):=by
 simp only[Tryz.f94,Option.getD_some,u9]
 refine o9 (fun m a o nx=>∃ (i : Nat) (b : BS),i≤p.length∧m = p.length - i∧nx0≤nx∧r < nx∧QAt o nx t b false∧b.frees (x7 lo e i (p.drop i)) = T∧b.f.length≤1000000+2 * i∧IAt 70 o nx vf (Q1 p)∧IAt 74 o nx vt (Q2 p)∧o (r,7) = some (.row ⟨28,1,(r,7),false,true,[.int .i64 kind,.int .i64 set,.int .i64 lo,.int .i64 hi,slN l]⟩)∧a 12 = .int .i64 i∧a 0 = bp t∧a 2 = .int .i64 s∧a 3 = .int .i64 e∧a 4 = vf∧a 5 = vt∧a 7 = .ptr (r,7) (r,7) 0∧QKeep t o0 nx0 o) p.length (by omega) ⟨0,b,by omega,by omega,hnx,hrn,hB,hT,by omega,hf,ht,ho7,h12,hmore⟩ ?_
 clear hmore h12 ho7 hB hT hbf hf ht hrn hnx
 rintro m a o nx ⟨i,b,hi,rfl,hnx,hrn,hB,hT,hbf,hf,ht,ho7,h12,h0,h2,h3,h4,h5,h7,hkp⟩
 by_cases hlt : i < p.length
 ·have hf':=hf
  have ht':=ht
  rcases hf with ⟨_,e1,_⟩ | ⟨i1,g1,rfl,hi1,hrow1,hlen1⟩
  ·simp only[List.length_map] at e1;omega
  rcases ht with ⟨_,e1,_⟩ | ⟨i2,g2,rfl,hi2,hrow2,hlen2⟩
  ·simp only[List.length_map] at e1;omega
  simp only[List.length_map] at h4 h5
  have g0:=aC9 hlt
  by_cases hl : i+1 = p.length
  ·have hl' : ((i : Int) = (p.length : Int) - 1) = True:=eq_true (by omega)
   obtain ⟨q1,q2⟩:=aC2 (lo:=lo) (e:=e) hl
   rw[q1,z6,C2] at hT
   simp (disch:=omega) only[go_sem,h0,h2,h3,h4,h5,h7,h12,hrow1,hrow2,g0,hF,hl']
   refine E6 (hB.new (fun _ _ _=>rfl) (by omega)) _ _ (by omega) ?_
   intro o1 nx1 hle1 hB1 hk1
   have k1 : QKeep t o nx o1:=fun i j (hi : i < nx)=>hk1 i j (by omega)
   simp (disch:=omega) only[go_sem,h0,h2,h3,h4,h5,h7,h12,hF,hl']
   refine ⟨_,?_,i+1,_,by omega,rfl,by omega,by omega,hB1.new (fun _ _ _=>rfl) (by omega),?_,by simp only[BS.free_f,List.length_append,List.length_cons,List.length_nil];omega,hf'.keep k1 (by decide) (by decide) (by decide) (by omega),ht'.keep k1 (by decide) (by decide) (by decide) (by omega),k1.row ho7 hrn (fun e=>absurd e (by decide)) (by decide) (by decide),rfl,by simp,by simp,hkp.trans k1 hnx⟩
   ·omega
   ·rw[q2,x7,C2,hT]
  ·have hl' : ¬ (i : Int) = (p.length : Int) - 1:=by omega
   have g1':=aq9 (show i+1 < p.length by omega)
   have q1:=aC3 (lo:=lo) (e:=e) (show i+1 < p.length by omega)
   by_cases hlo' : (i : Int)+1 ≥ lo
   ·rw[q1,if_pos hlo',List.singleton_append,z6,z6] at hT
    simp (disch:=omega) only[go_sem,h0,h2,h3,h4,h5,h7,h12,ho7,hrow1,hrow2,g0,hF,hl',hlo']
    refine E6 (hB.new (fun _ _ _=>rfl) (by omega)) _ _ (by omega) ?_
    intro o1 nx1 hle1 hB1 hk1
    have k1 : QKeep t o nx o1:=fun i j (hi : i < nx)=>hk1 i j (by omega)
    have hr1:=k1.row hrow1 hi1 (fun e=>absurd e (by decide)) (by decide) (by decide)
    have hr2:=k1.row hrow2 hi2 (fun e=>absurd e (by decide)) (by decide) (by decide)
    simp (disch:=omega) only[go_sem,h0,h2,h3,h4,h5,h7,h12,hr1,hr2,g0,g1',hF,hl']
    refine E6 (hB1.new (fun _ _ _=>rfl) (by omega)) _ _ (by simp only[BS.free_f,List.length_append,List.length_cons,List.length_nil];omega) ?_
    intro o2 nx2 hle2 hB2 hk2
    have k2 : QKeep t o nx o2:=k1.trans (fun i j (hi : i < nx1)=>hk2 i j (by omega)) (by omega)
    simp (disch:=omega) only[go_sem,h0,h2,h3,h4,h5,h7,h12,hF,hl']
    refine ⟨_,?_,i+1,_,by omega,rfl,by omega,by omega,hB2.new (fun _ _ _=>rfl) (by omega),hT,by simp only[BS.free_f,List.length_append,List.length_cons,List.length_nil];omega,hf'.keep k2 (by decide) (by decide) (by decide) (by omega),ht'.keep k2 (by decide) (by decide) (by decide) (by omega),k2.row ho7 hrn (fun e=>absurd e (by decide)) (by decide) (by decide),rfl,by simp,by simp,hkp.trans k2 hnx⟩
    omega
   ·rw[q1,if_neg hlo',List.nil_append,z6] at hT
    simp (disch:=omega) only[go_sem,h0,h2,h3,h4,h5,h7,h12,ho7,hrow1,hrow2,g0,g1',hF,hl',hlo']
    refine E6 (hB.new (fun _ _ _=>rfl) (by omega)) _ _ (by omega) ?_
    intro o1 nx1 hle1 hB1 hk1
    have k1 : QKeep t o nx o1:=fun i j (hi : i < nx)=>hk1 i j (by omega)
    simp (disch:=omega) only[go_sem,h0,h2,h3,h4,h5,h7,h12,hF,hl']
    refine ⟨_,?_,i+1,_,by omega,rfl,by omega,by omega,hB1.new (fun _ _ _=>rfl) (by omega),hT,by simp only[BS.free_f,List.length_append,List.length_cons,List.length_nil];omega,hf'.keep k1 (by decide) (by decide) (by decide) (by omega),ht'.keep k1 (by decide) (by decide) (by decide) (by omega),k1.row ho7 hrn (fun e=>absurd e (by decide)) (by decide) (by decide),rfl,by simp,by simp,hkp.trans k1 hnx⟩
    omega
 ·have hf':=hf
  rw[List.drop_of_length_le (by omega),x7,C2] at hT
  rcases hf with ⟨rfl,e1,_⟩ | ⟨i1,g1,rfl,hi1,hrow1,hlen1⟩
  ·have hz : ¬ (i : Int) < 0:=by omega
   simp (disch:=omega) only[go_sem,h0,h2,h3,h4,h5,h7,h12,hz]
   exact hQ _ _ _ (by omega) (by omega) ho7 (hT ▸ hB.new (fun _ _ _=>rfl) (by omega)) (by simp (disch:=omega) only[go_sem,h0]) (by simp (disch:=omega) only[go_sem,h2]) (by simp (disch:=omega) only[go_sem,h3]) (by simp (disch:=omega) only[go_sem,h7]) hkp
  ·simp only[List.length_map] at h4
   simp (disch:=omega) only[go_sem,h0,h2,h3,h4,h5,h7,h12]
   exact hQ _ _ _ (by omega) (by omega) ho7 (hT ▸ hB.new (fun _ _ _=>rfl) (by omega)) (by simp (disch:=omega) only[go_sem,h0]) (by simp (disch:=omega) only[go_sem,h2]) (by simp (disch:=omega) only[go_sem,h3]) (by simp (disch:=omega) only[go_sem,h7]) hkp
theorem cz2 {kind set lo hi s e : Int} {l : List Nd} {p : List (Int × Int)} {vf vt : AV} (hlo : 0≤lo∧lo≤10) (hlen : p.length≤1000) (hpi : 0 < hi ↔ 0 < p.length) {t : Nat} {o : Ob} {nx : Nat} {b : BS} (h : QAt o nx t b false) (hf : IAt 70 o nx vf (Q1 p)) (ht : IAt 74 o nx vt (Q2 p)) (hbf : b.f.length≤900000) :
  ∃ v H',dC5 [bp t,j5 (.mk kind set lo hi l),.int .i64 s,.int .i64 e,vf,vt] ⟨o,nx⟩ v H':=by
 obtain ⟨cr,hcr⟩ : ∃ cr,cr = p8 [(93,B1 aq8)]:=⟨_,rfl⟩
 have hF : cr 93 = B1 aq8:=by rw[hcr];rfl
 obtain ⟨v,H',h1,h2⟩:=D6 (E:=EX md0 (fun _ _=>none)) (cr:=cr) (z8 _) (hcr ▸ bJ6) mixed (k:=3002) (args:=[bp t,j5 (.mk kind set lo hi l),.int .i64 s,.int .i64 e,vf,vt]) (o:=o) (nx:=nx) (Post:=fun v o' nx'=>v = .tup []∧QTo t (b.frees (cq5 lo s e p)) false ⟨o,nx⟩ ⟨o',nx'⟩) Tryz.func94 (cd8 _) rfl (by
  clear hcr
  have hnew : ∀ y,∀ i j,i < nx→upd o (nx,7) y (i,j) = o (i,j):=fun y i j hi=>by simp (disch:=omega) only[B6]
  have hsl : ∀ y,∀ i j,j ≠ 7→upd o (nx,7) y (i,j) = o (i,j):=fun y i j hj=>by simp[b9,hj]
  have htn : t < nx:=by obtain ⟨vS,vF,h⟩:=h;exact h.lt
  have hbl : b.frees (cq5 lo s e p) = ((b.frees (O2 s p)).frees (x7 lo e 0 p)).frees (if lo = 0 then [(s,e)] else []):=by rw[cq5,aC1,aC1]
  have fin : ∀ (Q : s8) (a : v6) (o' : Ob) (nx' : Nat),(∀ a o' nx',nx≤nx'→QAt o' nx' t (b.frees (cq5 lo s e p)) false→QKeep t o nx o'→Q .normal a o' nx')→nx≤nx'→nx < nx'→o' (nx,7) = some (.row ⟨28,1,(nx,7),false,true,[.int .i64 kind,.int .i64 set,.int .i64 lo,.int .i64 hi,slN l]⟩)→QAt o' nx' t ((b.frees (O2 s p)).frees (x7 lo e 0 p)) false→a 0 = bp t→a 2 = .int .i64 s→a 3 = .int .i64 e→a 7 = .ptr (nx,7) (nx,7) 0→QKeep t o nx o'→WP (EX md0 (fun _ _=>none)) cr 3002 (fun _=>none) (u9 [1,1,1] (Tryz.f94.body.getD .skip)) a o' nx' Q:=by
   intro Q a o' nx' hQ hnx hrn ho7 hB h0 h2 h3 h7 hk
   simp only[Tryz.f94,Option.getD_some,u9]
   have hl2 : ((b.frees (O2 s p)).frees (x7 lo e 0 p)).f.length≤1000000:=by
    have:=ag4 lo e 0 p
    have h1 : (O2 s p).length≤1:=by unfold O2;split <;> simp
    show ((b.f++_)++_).length≤_
    simp only[List.length_append];omega
   by_cases hz : lo = 0
   ·rw[hbl,if_pos hz,z6,C2] at hQ
    simp (disch:=omega) only[go_sem,h0,h2,h3,h7,ho7,hF,hz]
    refine E6 (hB.new (fun _ _ _=>rfl) (by omega)) _ _ (by omega) ?_
    intro o1 nx1 hle1 hB1 hk1
    simp (disch:=omega) only[go_sem]
    exact hQ _ _ _ (by omega) hB1 (hk.trans (fun i j (hi : i < nx')=>hk1 i j (by omega)) hnx)
   ·rw[hbl,if_neg hz,C2] at hQ
    simp (disch:=omega) only[go_sem,h0,h2,h3,h7,ho7,hF,hz]
    exact hQ _ _ _ (by omega) (hB.new (fun _ _ _=>rfl) (by omega)) hk
  have loop : ∀ (Q : s8) (b1 : BS) (a : v6) (o' : Ob) (nx' : Nat),b1 = b.frees (O2 s p)→(∀ a o' nx',nx≤nx'→QAt o' nx' t (b.frees (cq5 lo s e p)) false→QKeep t o nx o'→Q .normal a o' nx')→nx < nx'→o' (nx,7) = some (.row ⟨28,1,(nx,7),false,true,[.int .i64 kind,.int .i64 set,.int .i64 lo,.int .i64 hi,slN l]⟩)→QAt o' nx' t b1 false→IAt 70 o' nx' vf (Q1 p)→IAt 74 o' nx' vt (Q2 p)→a 0 = bp t→a 2 = .int .i64 s→a 3 = .int .i64 e→a 4 = vf→a 5 = vt→a 7 = .ptr (nx,7) (nx,7) 0→a 12 = .int .i64 0→QKeep t o nx o'→WP (EX md0 (fun _ _=>none)) cr 3002 (fun _=>none) (u9 [1,1,0,1,0] (Tryz.f94.body.getD .skip)) a o' nx' (I8 0 (aA9 (EX md0 (fun _ _=>none)) cr 3002 (fun _=>none) (u9 [1,1,1] (Tryz.f94.body.getD .skip)) Q)):=by
   intro Q b1 a o' nx' hb1 hQ hrn ho7 hB hf ht h0 h2 h3 h4 h5 h7 h12 hk
   have h1 : (O2 s p).length≤1:=by unfold O2;split <;> simp
   refine bJ7 hF hlo hlen (Nat.le_refl nx) hrn (by omega) hB rfl (by rw[hb1];show (b.f++_).length≤_;rw[List.length_append];omega) hf ht ho7 h12 ⟨h0,h2,h3,h4,h5,h7,hk⟩ ?_
   intro a o' nx' hnx hrn ho7 hB h0 h2 h3 h7 hk
   rw[hb1] at hB
   exact fin Q a o' nx' hQ hnx hrn ho7 hB h0 h2 h3 h7 hk
  simp only[Tryz.f94,Option.getD_some]
  by_cases hp : 0 < hi
  ·have hpp:=hpi.1 hp
   have e1 : O2 s p = [(s,(p.getD 0 (0,0)).1)]:=by
    cases hpe : p with
    | nil=>rw[hpe] at hpp;simp at hpp
    | cons x y=>rfl
   have g0:=aq9 hpp
   rw[List.drop_zero] at g0
   have hf':=hf
   rcases hf with ⟨_,e1,_⟩ | ⟨i1,g1,rfl,hi1,hrow1,hlen1⟩
   ·simp only[List.length_map] at e1;omega
   have hz : (0 : Int) < (Q1 p).length:=by simp only[List.length_map];omega
   simp (disch:=omega) only[go_sem,hp,hF,hrow1,g0,n7,hz]
   refine E6 (h.new (hnew _) (by omega)) _ _ (by omega) ?_
   intro o1 nx1 hle1 hB1 hk1
   have k1 : QKeep t o nx o1:=(QKeep.new (hnew _)).trans hk1 (by omega)
   have hx7 : o1 (nx,7) = some (.row ⟨28,1,(nx,7),false,true,[.int .i64 kind,.int .i64 set,.int .i64 lo,.int .i64 hi,slN l]⟩):=by rw[hk1 _ _ (by omega) (fun e=>absurd e (by decide)) (by decide) (by decide)];simp[b9]
   simp (disch:=omega) only[go_sem]
   exact loop _ _ _ _ _ (by rw[e1,z6,C2]) (fun a o' nx' hn hB hk=>⟨.inl rfl,rfl,hn,hB,hk⟩) (by omega) hx7 (hB1.new (fun _ _ _=>rfl) (by omega)) (hf'.keep k1 (by decide) (by decide) (by decide) (by omega)) (ht.keep k1 (by decide) (by decide) (by decide) (by omega)) (by simp (disch:=omega) only[go_sem]) (by simp (disch:=omega) only[go_sem]) (by simp (disch:=omega) only[go_sem]) (by simp (disch:=omega) only[go_sem]) (by simp (disch:=omega) only[go_sem]) (by simp (disch:=omega) only[go_sem]) (by simp (disch:=omega) only[go_sem]) k1
  ·have e1 : O2 s p = []:=by
    cases hpe : p with
    | nil=>rfl
    | cons x y=>rw[hpe] at hpi;exact absurd (hpi.2 (by simp)) hp
   simp (disch:=omega) only[go_sem,hp,hF,n7]
   exact loop _ _ _ _ _ (by rw[e1,C2]) (fun a o' nx' hn hB hk=>⟨.inl rfl,rfl,hn,hB,hk⟩) (by omega) (d8 _ _ _) (h.new (hnew _) (by omega)) (hf.slot (fun i=>hsl _ i 70 (by decide)) (by omega)) (ht.slot (fun i=>hsl _ i 74 (by decide)) (by omega)) (by simp (disch:=omega) only[go_sem]) (by simp (disch:=omega) only[go_sem]) (by simp (disch:=omega) only[go_sem]) (by simp (disch:=omega) only[go_sem]) (by simp (disch:=omega) only[go_sem]) (by simp (disch:=omega) only[go_sem]) (by simp (disch:=omega) only[go_sem]) (QKeep.new (hnew _)))
 refine ⟨v,H',h1,fun t' b' kind' set' lo' hi' l' s' e' vf' vt' p' e hf' ht' hb=>?_⟩
 simp only[List.cons.injEq,AV.ptr.injEq,Prod.mk.injEq,AV.agg.injEq,AV.int.injEq,true_and,and_true] at e
 obtain ⟨⟨rfl,_⟩,e2,rfl,rfl,rfl,rfl⟩:=e
 have e3:=K0 e2
 injection e3 with _ _ r1 _ _
 have e4 : p = p':=by
  have q1:=hf.same hf'
  have q2:=ht.same ht'
  exact aO6 q1 q2
 rw[← (h.same hb).1,← r1,← e4]
 exact h2
set_option maxRecDepth 20000
def X6 (kind set lo s e : Int) (p : List (Int × Int)) (b : BS) : BS :=
 if kind = 1 then b.step s e set
 else if kind = 3 then b.free s e
 else if kind = 5 then b.frees (W3 s e p)
 else if kind = 6 then b.frees [(s,(p.getD 0 (0,0)).1),(s,e),((p.getD 0 (0,0)).2,(p.getD 0 (0,0)).1),((p.getD 0 (0,0)).2,e)]
 else if kind = 7 then b.frees [(s,(p.getD 0 (0,0)).1),((p.getD 0 (0,0)).2,(p.getD 0 (0,0)).1),((p.getD 0 (0,0)).2,e)]
 else if kind = 8 then b.frees [(s,(p.getD 0 (0,0)).1),(s,e),((p.getD 0 (0,0)).2,e)]
 else if kind = 9 then b.frees (cq5 lo s e p)
 else b
def aG9 (args : List AV) (H : AH) (v : AV) (H' : AH) : Prop := OkR Tryz.prog 86 args H v H'∧∀ t b kind set lo hi l s e vf vt p,args = [bp t,j5 (.mk kind set lo hi l),.int .i64 s,.int .i64 e,vf,vt]→IAt 70 H.o H.nx vf (Q1 p)→IAt 74 H.o H.nx vt (Q2 p)→QAt H.o H.nx t b false→v = .tup []∧QTo t (X6 kind set lo s e p b) false H H'
def Z5 (id : Nat) : Option (List (Nat × Nat)) := if id = 3 then some [(5,11)] else none
theorem bJ8 (X) : d9 (EX md0 X) Z5 6 Tryz.f86 = true := by kernel_rfl
noncomputable abbrev bf4 : List (FuncId × (List AV→AH→Option (AV × AH))) := [(93,B1 aq8),(94,B1 dC5)]
theorem bw1 : x8 Tryz.prog (p8 bf4)∧Up (p8 bf4) :=
 m9 (m9 (C1 _) fun args H v H' h=>(u0 h).1) fun args H v H' h=>(u0 h).1
theorem ar0 {kind set lo hi s e : Int} {l : List Nd} {p : List (Int × Int)} {vf vt : AV} {t : Nat} {o : Ob} {nx : Nat} {b : BS} (h : QAt o nx t b false) (hf : IAt 70 o nx vf (Q1 p)) (ht : IAt 74 o nx vt (Q2 p))
  (w : ∀ cr,cr 93 = B1 aq8→cr 94 = B1 dC5→WP (EX md0 (fun _ _=>none)) cr 3002 Z5 (Tryz.f86.body.getD .skip) (A2 [bp t,j5 (.mk kind set lo hi l),.int .i64 s,.int .i64 e,vf,vt]) o nx (fun u a o' nx'=>(u = .normal ∨ u = .ret)∧wO (s7 Tryz.prog a ⟨o',nx'⟩ Tryz.f86.results.toList) (fun vs=>ac3 vs = .tup []∧QTo t (X6 kind set lo s e p b) false ⟨o,nx⟩ ⟨o',nx'⟩))) :
  ∃ v H',aG9 [bp t,j5 (.mk kind set lo hi l),.int .i64 s,.int .i64 e,vf,vt] ⟨o,nx⟩ v H':=by
 obtain ⟨v,H',h1,h2⟩:=D6 (E:=EX md0 (fun _ _=>none)) (cr:=p8 bf4) (z8 _) bw1 mixed (k:=3002) (nz:=Z5) (args:=[bp t,j5 (.mk kind set lo hi l),.int .i64 s,.int .i64 e,vf,vt]) (o:=o) (nx:=nx) (Post:=fun v o' nx'=>v = .tup []∧QTo t (X6 kind set lo s e p b) false ⟨o,nx⟩ ⟨o',nx'⟩) Tryz.func86 (bJ8 _) rfl (w _ rfl rfl)
 refine ⟨v,H',h1,fun t' b' kind' set' lo' hi' l' s' e' vf' vt' p' e hf' ht' hb=>?_⟩
 simp only[List.cons.injEq,AV.ptr.injEq,Prod.mk.injEq,AV.agg.injEq,AV.int.injEq,true_and,and_true] at e
 obtain ⟨⟨rfl,_⟩,e2,rfl,rfl,rfl,rfl⟩:=e
 have e3:=K0 e2
 injection e3 with r0 r1 r2 _ _
 rw[← (h.same hb).1,← r0,← r1,← r2,← aO6 (hf.same hf') (ht.same ht')]
 exact h2
theorem bw2 {cr : v8} (hF : cr 93 = B1 aq8) {s e : Int} {t : Nat} {o0 : Ob} {nx0 : Nat} {T b : BS} {p : List (Int × Int)} {vf vt : AV} {a : v6} {o : Ob} {nx : Nat} {Q : s8} (hlen : p.length≤1000) (hnx : nx0≤nx) (hB : QAt o nx t b false) (hT : b.frees (W3 s e p) = T) (hbf : b.f.length≤1000000) (hf : IAt 70 o nx vf (Q1 p)) (ht : IAt 74 o nx vt (Q2 p)) (h12 : a 12 = .int .i64 0)
  (hmore : a 0 = bp t∧a 2 = .int .i64 s∧a 3 = .int .i64 e∧a 4 = vf∧a 5 = vt∧QKeep t o0 nx0 o)
  (hQ : ∀ a o nx,nx0≤nx→QAt o nx t T false→QKeep t o0 nx0 o→Q .normal a o nx) :
  WP (EX md0 (fun _ _=>none)) cr 3002 Z5 (u9 [1,1,0,1,1,1,1,1,0,1,0] (Tryz.f86.body.getD .skip)) a o nx (I8 1 Q):=by
 simp only[Tryz.f86,Option.getD_some,u9]
 refine o9 (fun m a o nx=>∃ (i : Nat) (b : BS),i≤p.length∧m = p.length - i∧nx0≤nx∧QAt o nx t b false∧b.frees (W3 s e (p.drop i)) = T∧b.f.length≤1000000+2 * i∧IAt 70 o nx vf (Q1 p)∧IAt 74 o nx vt (Q2 p)∧a 12 = .int .i64 i∧a 0 = bp t∧a 2 = .int .i64 s∧a 3 = .int .i64 e∧a 4 = vf∧a 5 = vt∧QKeep t o0 nx0 o) p.length (by omega) ⟨0,b,by omega,by omega,hnx,hB,hT,by omega,hf,ht,h12,hmore⟩ ?_
 clear hmore h12 hB hT hbf hf ht hnx
 rintro m a o nx ⟨i,b,hi,rfl,hnx,hB,hT,hbf,hf,ht,h12,h0,h2,h3,h4,h5,hkp⟩
 by_cases hlt : i < p.length
 ·have hf':=hf
  have ht':=ht
  rcases hf with ⟨_,e1,_⟩ | ⟨i1,g1,rfl,hi1,hrow1,hlen1⟩
  ·simp only[List.length_map] at e1;omega
  rcases ht with ⟨_,e1,_⟩ | ⟨i2,g2,rfl,hi2,hrow2,hlen2⟩
  ·simp only[List.length_map] at e1;omega
  simp only[List.length_map] at h4 h5
  have g0:=aC9 hlt
  have g1':=aq9 hlt
  rw[P9 p (0,0) hlt,show W3 s e (p.getD i (0,0) :: p.drop (i+1)) = (s,(p.getD i (0,0)).1) :: ((p.getD i (0,0)).2,e) :: W3 s e (p.drop (i+1)) from rfl,z6,z6] at hT
  simp (disch:=omega) only[go_sem,h0,h2,h3,h4,h5,h12,hrow1,hrow2,g0,g1',hF]
  refine E6 (hB.new (fun _ _ _=>rfl) (by omega)) _ _ (by omega) ?_
  intro o1 nx1 hle1 hB1 hk1
  have k1 : QKeep t o nx o1:=fun i j (hi : i < nx)=>hk1 i j (by omega)
  have hr1:=k1.row hrow1 hi1 (fun e=>absurd e (by decide)) (by decide) (by decide)
  have hr2:=k1.row hrow2 hi2 (fun e=>absurd e (by decide)) (by decide) (by decide)
  simp (disch:=omega) only[go_sem,h0,h2,h3,h4,h5,h12,hr1,hr2,g0,g1',hF]
  refine E6 (hB1.new (fun _ _ _=>rfl) (by omega)) _ _ (by simp only[BS.free_f,List.length_append,List.length_cons,List.length_nil];omega) ?_
  intro o2 nx2 hle2 hB2 hk2
  have k2 : QKeep t o nx o2:=k1.trans (fun i j (hi : i < nx1)=>hk2 i j (by omega)) (by omega)
  simp (disch:=omega) only[go_sem,h0,h2,h3,h4,h5,h12,hF]
  refine ⟨_,?_,i+1,_,by omega,rfl,by omega,hB2.new (fun _ _ _=>rfl) (by omega),hT,by simp only[BS.free_f,List.length_append,List.length_cons,List.length_nil];omega,hf'.keep k2 (by decide) (by decide) (by decide) (by omega),ht'.keep k2 (by decide) (by decide) (by decide) (by omega),rfl,by simp,by simp,hkp.trans k2 hnx⟩
  omega
 ·rw[List.drop_of_length_le (by omega),show W3 s e [] = [] from rfl,C2] at hT
  rcases hf with ⟨rfl,e1,_⟩ | ⟨i1,g1,rfl,hi1,hrow1,hlen1⟩
  ·have hz : ¬ (i : Int) < 0:=by omega
   simp (disch:=omega) only[go_sem,h0,h2,h3,h4,h5,h12,hz]
   exact hQ _ _ _ (by omega) (hT ▸ hB.new (fun _ _ _=>rfl) (by omega)) hkp
  ·simp only[List.length_map] at h4
   simp (disch:=omega) only[go_sem,h0,h2,h3,h4,h5,h12]
   exact hQ _ _ _ (by omega) (hT ▸ hB.new (fun _ _ _=>rfl) (by omega)) hkp
section
variable {kind set lo hi s e : Int} {l : List Nd} {p : List (Int × Int)} {vf vt : AV} {t : Nat} {o : Ob} {nx : Nat} {b : BS}
theorem aD0 {b' : BS} {o1 : Ob} {nx1 nx2 : Nat} (hB1 : QAt o1 nx1 t b' false) (k1 : QKeep t o nx o1) (hle : nx≤nx1) (h2 : nx1≤nx2) : QTo t b' false ⟨o,nx⟩ ⟨o1,nx2⟩ := ⟨by show nx≤nx2;omega,hB1.new (fun _ _ _=>rfl) h2,k1⟩
theorem bw3 (h : QAt o nx t b false) (hf : IAt 70 o nx vf (Q1 p)) (ht : IAt 74 o nx vt (Q2 p)) (hbf : b.f.length≤800000) (hlen : p.length≤1000) (hk : kind = 5) : ∃ v H',aG9 [bp t,j5 (.mk kind set lo hi l),.int .i64 s,.int .i64 e,vf,vt] ⟨o,nx⟩ v H' := by
 refine ar0 h hf ht fun cr hF hR=>?_
 have hsl : ∀ y,∀ i j,j ≠ 7→upd o (nx,7) y (i,j) = o (i,j):=fun y i j hj=>by simp[b9,hj]
 have hnew : ∀ y,∀ i j,i < nx→upd o (nx,7) y (i,j) = o (i,j):=fun y i j hi=>by simp (disch:=omega) only[B6]
 have e1 : X6 kind set lo s e p b = b.frees (W3 s e p):=by rw[X6,if_neg (by omega),if_neg (by omega),if_pos hk]
 rw[e1]
 subst hk
 simp only[Tryz.f86,Option.getD_some]
 simp (disch:=omega) only[go_sem,hF,Z5]
 refine bw2 hF (s:=s) (e:=e) (o0:=o) (nx0:=nx) hlen (by omega) (h.new (hnew _) (by omega)) rfl (by omega) (hf.slot (fun i=>hsl _ i 70 (by decide)) (by omega)) (ht.slot (fun i=>hsl _ i 74 (by decide)) (by omega)) (by simp (disch:=omega) only[go_sem]) ⟨by simp (disch:=omega) only[go_sem],by simp (disch:=omega) only[go_sem],by simp (disch:=omega) only[go_sem],by simp (disch:=omega) only[go_sem],by simp (disch:=omega) only[go_sem],QKeep.new (hnew _)⟩ ?_
 intro a o1 nx1 hn1 hB1 k1
 simp (disch:=omega) only[go_sem]
 exact ⟨rfl,aD0 hB1 k1 hn1 (Nat.le_refl _)⟩
theorem bJ9 (h : QAt o nx t b false) (hf : IAt 70 o nx vf (Q1 p)) (ht : IAt 74 o nx vt (Q2 p)) (hbf : b.f.length≤800000) (hk : kind = 3) : ∃ v H',aG9 [bp t,j5 (.mk kind set lo hi l),.int .i64 s,.int .i64 e,vf,vt] ⟨o,nx⟩ v H' := by
 refine ar0 h hf ht fun cr hF hR=>?_
 have hnew : ∀ y,∀ i j,i < nx→upd o (nx,7) y (i,j) = o (i,j):=fun y i j hi=>by simp (disch:=omega) only[B6]
 have e1 : X6 kind set lo s e p b = b.free s e:=by rw[X6,if_neg (by omega),if_pos hk]
 rw[e1]
 subst hk
 simp only[Tryz.f86,Option.getD_some]
 simp (disch:=omega) only[go_sem,hF,Z5]
 refine E6 (h.new (hnew _) (by omega)) _ _ (by omega) ?_
 intro o1 nx1 hn1 hB1 hk1
 have k1 : QKeep t o nx o1:=(QKeep.new (hnew _)).trans hk1 (by omega)
 simp (disch:=omega) only[go_sem]
 exact ⟨rfl,aD0 hB1 k1 (by omega) (by omega)⟩
theorem bw4 (h : QAt o nx t b false) (hf : IAt 70 o nx vf (Q1 p)) (ht : IAt 74 o nx vt (Q2 p)) (k1 : kind ≠ 1) (k3 : kind ≠ 3) (k5 : kind ≠ 5) (k6 : kind ≠ 6) (k7 : kind ≠ 7) (k8 : kind ≠ 8) (k9 : kind ≠ 9) : ∃ v H',aG9 [bp t,j5 (.mk kind set lo hi l),.int .i64 s,.int .i64 e,vf,vt] ⟨o,nx⟩ v H' := by
 refine ar0 h hf ht fun cr hF hR=>?_
 have hnew : ∀ y,∀ i j,i < nx→upd o (nx,7) y (i,j) = o (i,j):=fun y i j hi=>by simp (disch:=omega) only[B6]
 have e1 : X6 kind set lo s e p b = b:=by rw[X6,if_neg k1,if_neg k3,if_neg k5,if_neg k6,if_neg k7,if_neg k8,if_neg k9]
 rw[e1]
 simp only[Tryz.f86,Option.getD_some]
 simp (disch:=omega) only[go_sem,hF,Z5,k1,k3,k5,k6,k7,k8,k9]
 exact ⟨rfl,aD0 (nx1:=nx+1) (h.new (hnew _) (by omega)) (QKeep.new (hnew _)) (by omega) (by omega)⟩
theorem cd9 (h : QAt o nx t b false) (hf : IAt 70 o nx vf (Q1 p)) (ht : IAt 74 o nx vt (Q2 p)) (hbf : b.f.length≤800000) (hlen : p.length≤1000) (hlo : 0≤lo∧lo≤10) (hpi : 0 < hi ↔ 0 < p.length) (hk : kind = 9) : ∃ v H',aG9 [bp t,j5 (.mk kind set lo hi l),.int .i64 s,.int .i64 e,vf,vt] ⟨o,nx⟩ v H' := by
 refine ar0 h hf ht fun cr hF hR=>?_
 have hsl : ∀ y,∀ i j,j ≠ 7→upd o (nx,7) y (i,j) = o (i,j):=fun y i j hj=>by simp[b9,hj]
 have hnew : ∀ y,∀ i j,i < nx→upd o (nx,7) y (i,j) = o (i,j):=fun y i j hi=>by simp (disch:=omega) only[B6]
 have e1 : X6 kind set lo s e p b = b.frees (cq5 lo s e p):=by rw[X6,if_neg (by omega),if_neg (by omega),if_neg (by omega),if_neg (by omega),if_neg (by omega),if_neg (by omega),if_pos hk]
 rw[e1]
 subst hk
 simp only[Tryz.f86,Option.getD_some]
 have hcn : cNd (.mk 9 set lo hi l) = [.int .i64 9,.int .i64 set,.int .i64 lo,.int .i64 hi,slN l]:=n7 ..
 simp (disch:=omega) only[go_sem,hR,Z5]
 simp only[← hcn]
 refine F6 (cz2 (kind:=9) (set:=set) (l:=l) (s:=s) (e:=e) hlo hlen hpi (h.new (hnew _) (by omega)) (hf.slot (fun i=>hsl _ i 70 (by decide)) (by omega)) (ht.slot (fun i=>hsl _ i 74 (by decide)) (by omega)) (by omega)) fun v H' hr=>?_
 obtain ⟨rfl,h1,h2,h3⟩:=hr.2 t b 9 set lo hi l s e vf vt p rfl (hf.slot (fun i=>hsl _ i 70 (by decide)) (by dsimp only;omega)) (ht.slot (fun i=>hsl _ i 74 (by decide)) (by dsimp only;omega)) (h.new (hnew _) (by dsimp only;omega))
 obtain ⟨o1,nx1⟩:=H'
 dsimp only at h1 h2 h3
 have k1 : QKeep t o nx o1:=(QKeep.new (hnew _)).trans h3 (by omega)
 simp (disch:=omega) only[go_sem]
 exact ⟨rfl,aD0 h2 k1 (by omega) (by omega)⟩
theorem bK0 (h : QAt o nx t b false) (hf : IAt 70 o nx vf (Q1 p)) (ht : IAt 74 o nx vt (Q2 p)) (hbf : b.f.length≤800000) (hlen : p.length = 1) (hk : kind = 6 ∨ kind = 7 ∨ kind = 8) : ∃ v H',aG9 [bp t,j5 (.mk kind set lo hi l),.int .i64 s,.int .i64 e,vf,vt] ⟨o,nx⟩ v H' := by
 refine ar0 h hf ht fun cr hF hR=>?_
 have hnew : ∀ y,∀ i j,i < nx→upd o (nx,7) y (i,j) = o (i,j):=fun y i j hi=>by simp (disch:=omega) only[B6]
 have g0:=aq9 (p:=p) (i:=0) (by omega)
 have g1':=aC9 (p:=p) (i:=0) (by omega)
 rw[List.drop_zero] at g0 g1'
 have hz1 : (0 : Int) < (Q1 p).length:=by simp only[List.length_map];omega
 have hz2 : (0 : Int) < (Q2 p).length:=by simp only[List.length_map];omega
 rcases hf with ⟨_,e1,_⟩ | ⟨i1,g1,rfl,hi1,hrow1,hlen1⟩
 ·simp only[List.length_map] at e1;omega
 rcases ht with ⟨_,e1,_⟩ | ⟨i2,g2,rfl,hi2,hrow2,hlen2⟩
 ·simp only[List.length_map] at e1;omega
 have k0 : ∀ y,QKeep t o nx (upd o (nx,7) y):=fun y=>QKeep.new (hnew y)
 simp only[Tryz.f86,Option.getD_some]
 obtain ⟨q0,hq0⟩ : ∃ q0,q0 = p.getD 0 (0,0):=⟨_,rfl⟩
 have hL : X6 kind set lo s e p b = if kind = 6 then (((b.free s q0.1).free s e).free q0.2 q0.1).free q0.2 e else if kind = 7 then ((b.free s q0.1).free q0.2 q0.1).free q0.2 e else ((b.free s q0.1).free s e).free q0.2 e:=by
  rw[hq0]
  unfold X6
  rcases hk with rfl | rfl | rfl <;> simp[z6,C2]
 rw[hL]
 rw[← hq0] at g0 g1'
 rcases hk with rfl | rfl | rfl
 all_goals
  simp (disch:=omega) only[go_sem,hF,Z5,hrow1,hrow2,g0,g1',hz1,hz2]
  refine E6 (h.new (hnew _) (by omega)) _ _ (by omega) ?_
  intro o1 nx1 hle1 hB1 hk1
  have k1 : QKeep t o nx o1:=(QKeep.new (hnew _)).trans hk1 (by omega)
  have hr1:=k1.row hrow1 hi1 (fun e=>absurd e (by decide)) (by decide) (by decide)
  have hr2:=k1.row hrow2 hi2 (fun e=>absurd e (by decide)) (by decide) (by decide)
  clear hk1
  simp (disch:=omega) only[go_sem,hF,Z5,hr1,hr2,g0,g1',hz1,hz2]
  have hnn : nx≤nx1:=by omega
  repeat
   refine E6 (hB1.new (fun _ _ _=>rfl) (by omega)) _ _ (by simp only[BS.free_f,List.length_append,List.length_cons,List.length_nil];omega) ?_
   clear hr1 hr2
   intro o1 nx1 hle2 hB2 hk1
   replace k1 : QKeep t o nx o1:=k1.trans (fun i j (hi : i < _)=>hk1 i j (by omega)) (by omega)
   have hr1:=k1.row hrow1 hi1 (fun e=>absurd e (by decide)) (by decide) (by decide)
   have hr2:=k1.row hrow2 hi2 (fun e=>absurd e (by decide)) (by decide) (by decide)
   replace hB1:=hB2
   replace hnn : nx≤nx1:=by omega
   clear hk1 hB2
   simp (disch:=omega) only[go_sem,hF,Z5,hr1,hr2,g0,g1',hz1,hz2]
  exact ⟨rfl,aD0 hB1 k1 (by omega) (by omega)⟩
theorem ce0 (h : QAt o nx t b false) (hf : IAt 70 o nx vf (Q1 p)) (ht : IAt 74 o nx vt (Q2 p)) (hbs : b.s.length≤800000) (hk : kind = 1) : ∃ v H',aG9 [bp t,j5 (.mk kind set lo hi l),.int .i64 s,.int .i64 e,vf,vt] ⟨o,nx⟩ v H' := by
 refine ar0 h hf ht fun cr hF hR=>?_
 have hnew : ∀ y,∀ i j,i < nx→upd o (nx,7) y (i,j) = o (i,j):=fun y i j hi=>by simp (disch:=omega) only[B6]
 have e1 : X6 kind set lo s e p b = b.step s e set:=by rw[X6,if_pos hk]
 rw[e1]
 subst hk
 simp only[Tryz.f86,Option.getD_some]
 obtain ⟨vS,vF,hB⟩:=h
 have r1:=hB.lt
 have r2:=hB.row
 have r3:=hB.s.ok
 have r4:=hB.f.ok
 have hff:=hB.f
 have hb3 : (b.step s e set).s.length = b.s.length+1:=by show List.length (_++_) = _;rw[List.length_append];rfl
 have hb5 : cS (b.step s e set).s = cS b.s++[.int .i64 s,.int .i64 e,.int .i64 set]:=by show cS (_++_) = _;rw[cp9];rfl
 have hb6 : (b.step s e set).f = b.f:=rfl
 have key : ∀ (i k : Nat) (g : Tag) (x y z : AObj) (v : AV),i≤nx+k→z = .row ⟨117,3,g,false,true,cS b.s++[.int .i64 s,.int .i64 e,.int .i64 set]⟩→v = .ref (i,29) g 0 (b.s.length+1)→QTo t (b.step s e set) false ⟨o,nx⟩ ⟨upd (upd (upd (upd o (nx,7) x) (nx+k,28) y) (i,29) z) (t,8) (.row ⟨127,1,(t,8),false,true,[.int .i64 b.n,.int .i64 0,.int .i64 0,v,vF,.bool false]⟩),nx+k+1⟩:=by
  intro i k g x y z v hi hz hv
  subst hz hv
  refine ⟨by show nx≤nx+k+1;omega,⟨_,vF,⟨by show t < nx+k+1;omega,d8 _ _ _,.inr ⟨i,g,by rw[hb3],by show i < nx+k+1;omega,?_,?_⟩,?_⟩⟩,fun i' j' hi' a1 a2 a3=>?_⟩
  ·rw[hb5];simp[b9]
  ·rw[al7]
  ·rw[hb6];exact hff.keep (fun i' hi'=>by simp[b9]) (by show nx≤nx+k+1;omega)
  ·have n1 : i' ≠ nx+k:=by have : i' < nx:=hi';omega
   have n2 : i' ≠ nx:=by have : i' < nx:=hi';omega
   by_cases hj : j' = 8
   ·have:=a1 hj
    simp[b9,n1,n2,hj,this]
   ·simp[b9,n1,n2,hj,a2]
 rcases hB.s with ⟨rfl,q2,q3⟩ | ⟨i1,g1,rfl,hi1,hrow,hlen⟩
 ·simp (disch:=omega) only[go_sem,r2,r3,r4,Z5]
  exact ⟨rfl,key (nx+3) 3 (nx+3,29) _ _ _ _ (by omega) (by rw[q3];rfl) (by rw[q2])⟩
 ·simp (disch:=omega) only[go_sem,r2,r3,r4,Z5,hrow]
  exact ⟨rfl,key i1 3 (nx+3,29) _ _ _ _ (by omega) rfl rfl⟩
theorem cz3 (h : QAt o nx t b false) (hf : IAt 70 o nx vf (Q1 p)) (ht : IAt 74 o nx vt (Q2 p)) (hbf : b.f.length≤800000) (hbs : b.s.length≤800000) (hlen : p.length≤1000) (h1 : kind = 6 ∨ kind = 7 ∨ kind = 8→p.length = 1) (h9 : kind = 9→(0≤lo∧lo≤10)∧(0 < hi ↔ 0 < p.length)) : ∃ v H',aG9 [bp t,j5 (.mk kind set lo hi l),.int .i64 s,.int .i64 e,vf,vt] ⟨o,nx⟩ v H' := by
 by_cases k1 : kind = 1
 ·exact ce0 h hf ht hbs k1
 by_cases k3 : kind = 3
 ·exact bJ9 h hf ht hbf k3
 by_cases k5 : kind = 5
 ·exact bw3 h hf ht hbf hlen k5
 by_cases k6 : kind = 6 ∨ kind = 7 ∨ kind = 8
 ·exact bK0 h hf ht hbf (h1 k6) k6
 by_cases k9 : kind = 9
 ·exact cd9 h hf ht hbf hlen (h9 k9).1 (h9 k9).2 k9
 exact bw4 h hf ht k1 k3 k5 (fun h=>k6 (.inl h)) (fun h=>k6 (.inr (.inl h))) (fun h=>k6 (.inr (.inr h))) k9
end
end Go.Proofs.YtpmjpogcaglphaaGreatDoor.A
namespace Go.Proofs.YtpmjpogcaglphaaGreatDoor.A
open Go
set_option maxRecDepth 20000
structure QPre (b : BS) : Prop where
 f : b.f.length≤4 * b.n
 s : b.s.length≤b.n
 n : b.n≤1000
def cO2 (r : (Int × Int) × BS) (t : Nat) (v : AV) (H H' : AH) : Prop := H.nx≤H'.nx∧QKeep t H.o H.nx H'.o∧∃ s e,v = .tup [.int .i64 s,.int .i64 e]∧((r.2.n≤1000∧(s,e) = r.1∧QAt H'.o H'.nx t r.2 false) ∨ (1000 < r.2.n∧∃ b',b'.n≤1000∧QAt H'.o H'.nx t b' true))
def X7 (args : List AV) (H : AH) (v : AV) (H' : AH) : Prop := OkR Tryz.prog 59 args H v H'∧∀ t b x,args = [bp t,j5 x]→QAt H.o H.nx t b false→cO2 (d7 x b) t v H H'
def cz4 (args : List AV) (H : AH) (v : AV) (H' : AH) : Prop := OkR Tryz.prog 84 args H v H'∧∀ t b set lo hi l,args = [bp t,j5 (.mk 4 set lo hi l)]→QAt H.o H.nx t b false→cO2 (ab5 (m4 l) b) t v H H'
theorem ag6 {x : Nd} {t : Nat} {o : Ob} {nx : Nat} {b : BS} {K : AV × AH→Prop} (hex : ∃ v H',X7 [bp t,j5 x] ⟨o,nx⟩ v H') (h : QAt o nx t b false)
  (hK : ∀ s e o' nx',nx≤nx'→QKeep t o nx o'→((d7 x b).2.n≤1000∧(s,e) = (d7 x b).1∧QAt o' nx' t (d7 x b).2 false ∨ 1000 < (d7 x b).2.n∧∃ b',b'.n≤1000∧QAt o' nx' t b' true)→K (.tup [.int .i64 s,.int .i64 e],⟨o',nx'⟩)) :
  wO (Option.map (fun p=>t8 false p.1 p.2) (B1 X7 [bp t,j5 x] ⟨o,nx⟩)) K:=by
 refine F6 hex fun v H' hr=>?_
 obtain ⟨h1,h2,s,e,rfl,h3⟩:=hr.2 t b x rfl h
 exact hK s e H'.o H'.nx h1 h2 h3
theorem am7 {ks : List Nd} (hk : ab8 ks = true) (b : BS) (out : List (Int × Int)) : b.n≤(j6 (m4 ks) b out).2.n := (W2 (m4 ks) b out (ae0 ks hk)).lo
theorem aD1 {ks : List Nd} (hk : ab8 ks = true) (i : Nat) : ab8 (ks.drop i) = true := by
 induction i generalizing ks with
 | zero=>exact hk
 | succ i ih =>
  cases ks with
  | nil=>rw[List.drop_nil,ab8]
  | cons x l=>rw[ab8,Bool.and_eq_true] at hk;exact ih hk.2
theorem aD2 {x : Nd} (hk : okN x = true) {b : BS} (h : QPre b) (hn : (d7 x b).2.n≤1000) : QPre (d7 x b).2 := by
 have hb:=ad9 x hk b
 have:=hb.f4;have:=hb.s1;have:=hb.lo;have:=h.f;have:=h.s
 exact ⟨by omega,by omega,hn⟩
theorem IAt.fresh {D : Nat} {o : Ob} {nx : Nat} {v : AV} {l : List Int} (h : IAt D o nx v l) : v = .nil∧l = [] ∨ ∃ i g,v = .ref (i,D) g 0 l.length∧i < nx∧o (i,D) = some (.row ⟨3,1,g,false,true,cI l⟩) := by
 rcases h with ⟨rfl,e1,_⟩ | ⟨i,g,rfl,hi,hrow,hlen⟩
 ·exact .inl ⟨rfl,List.length_eq_zero_iff.1 e1⟩
 ·exact .inr ⟨i,g,rfl,hi,hrow⟩
theorem aW8 (p : List (Int × Int)) (q : Int × Int) : Q1 (p++[q]) = Q1 p++[q.1] := by simp[Q1]
theorem aW9 (p : List (Int × Int)) (q : Int × Int) : Q2 (p++[q]) = Q2 p++[q.2] := by simp[Q2]
theorem aX0 {cr : v8} {nx0 : Nat} {out : List (Int × Int)} {s e : Int} {vf vt : AV} {a : v6} {o : Ob} {nx : Nat} {Q : s8} (hlen : out.length≤2000) (hnx : nx0≤nx) (h7 : a 7 = vf) (h8 : a 8 = vt) (h12 : a 12 = .int .i64 s) (h13 : a 13 = .int .i64 e) (hf : IAt 70 o nx vf (Q1 out)) (ht : IAt 74 o nx vt (Q2 out)) (hff : ∀ j g n,vf = .ref (j,70) g 0 n→nx0≤j) (htf : ∀ j g n,vt = .ref (j,74) g 0 n→nx0≤j)
  (hQ : ∀ a' o' nx' vf' vt',nx≤nx'→IAt 70 o' nx' vf' (Q1 (out++[(s,e)]))→IAt 74 o' nx' vt' (Q2 (out++[(s,e)]))→(∀ j g n,vf' = .ref (j,70) g 0 n→nx0≤j)→(∀ j g n,vt' = .ref (j,74) g 0 n→nx0≤j)→a' 7 = vf'→a' 8 = vt'→(∀ u,u ≠ 7→u ≠ 8→u < 67→a' u = a u)→(∀ i j,i < nx0 ∨ (j ≠ 69∧j ≠ 70∧j ≠ 73∧j ≠ 74)→o' (i,j) = o (i,j))→Q .normal a' o' nx') :
  WP (EX md0 (fun _ _=>none)) cr 3002 (fun _=>none) (u9 [1,1,1,1,1,1,1,0,1,0,0,1,0,0,1,1,1] (Tryz.f59.body.getD .skip)) a o nx Q:=by
 simp only[Tryz.f59,Option.getD_some,u9]
 have hl : (Q1 out).length = out.length:=List.length_map ..
 have hl' : (Q2 out).length = out.length:=List.length_map ..
 have ep : ∀ (f g : Nat) (y1 y2 y3 y4 : AObj),nx0≤f→nx0≤g→∀ i j,i < nx0 ∨ (j ≠ 69∧j ≠ 70∧j ≠ 73∧j ≠ 74)→upd (upd (upd (upd o (nx,69) y1) (f,70) y2) (nx,73) y3) (g,74) y4 (i,j) = o (i,j):=fun f g y1 y2 y3 y4 hf hg i j h=>by
  rcases h with h | ⟨a1,a2,a3,a4⟩
  ·have e1 : i ≠ nx:=by omega
   have e2 : i ≠ f:=by omega
   have e3 : i ≠ g:=by omega
   simp[b9,e1,e2,e3]
  ·simp[b9,a1,a2,a3,a4]
 have tk1 : (cI (Q1 out)).take out.length = cI (Q1 out):=j7 (by rw[l9,hl])
 have tk2 : (cI (Q2 out)).take out.length = cI (Q2 out):=j7 (by rw[l9,hl'])
 have p1 : Q1 (out++[(s,e)]) = Q1 out++[s]:=aW8 ..
 have p2 : Q2 (out++[(s,e)]) = Q2 out++[e]:=aW9 ..
 have c1 : cI (Q1 out++[s]) = cI (Q1 out)++[.int .i64 s]:=by rw[P5];rfl
 have c2 : cI (Q2 out++[e]) = cI (Q2 out)++[.int .i64 e]:=by rw[P5];rfl
 have fin : ∀ (a' : v6) (f g : Nat) (gf gg : Tag) (y1 y2 y3 y4 : AObj) (vf' vt' : AV),nx0≤f→nx0≤g→f≤nx→g≤nx→vf' = .ref (f,70) gf 0 (out.length+1)→vt' = .ref (g,74) gg 0 (out.length+1)→y2 = .row ⟨3,1,gf,false,true,cI (Q1 out)++[.int .i64 s]⟩→y4 = .row ⟨3,1,gg,false,true,cI (Q2 out)++[.int .i64 e]⟩→a' 7 = vf'→a' 8 = vt'→(∀ u,u ≠ 7→u ≠ 8→u < 67→a' u = a u)→Q .normal a' (upd (upd (upd (upd o (nx,69) y1) (f,70) y2) (nx,73) y3) (g,74) y4) (nx+1):=by
  intro a' f g gf gg y1 y2 y3 y4 vf' vt' b1 b2 b3 b4 e1 e2 e3 e4 e5 e6 e7
  refine hQ a' _ _ vf' vt' (by omega) (.inr ⟨f,gf,?_,by omega,?_,?_⟩) (.inr ⟨g,gg,?_,by omega,?_,?_⟩) ?_ ?_ e5 e6 e7 (ep f g y1 y2 y3 y4 b1 b2)
  ·rw[e1,p1,List.length_append,hl];rfl
  ·rw[p1,c1,← e3];simp[b9]
  ·rw[l9];omega
  ·rw[e2,p2,List.length_append,hl'];rfl
  ·rw[p2,c2,← e4];simp[b9]
  ·rw[l9];omega
  ·intro j g' n h;rw[e1] at h;injection h with h;injection h with h;omega
  ·intro j g' n h;rw[e2] at h;injection h with h;injection h with h;omega
 rcases hf.fresh with ⟨rfl,hn1⟩ | ⟨i1,g1,rfl,hi1,hrow1⟩
 ·have hz : out.length = 0:=by rw[← hl,hn1];rfl
  rcases ht.fresh with ⟨rfl,hn2⟩ | ⟨i2,g2,rfl,hi2,hrow2⟩
  ·simp (disch:=omega) only[go_sem,h7,h8,h12,h13]
   exact fin _ nx nx (nx,70) (nx,74) _ _ _ _ (.ref (nx,70) (nx,70) 0 1) (.ref (nx,74) (nx,74) 0 1) (by omega) (by omega) (by omega) (by omega) (by rw[hz]) (by rw[hz]) (by rw[hn1];rfl) (by rw[hn2];rfl) (by simp (disch:=omega) only[go_sem]) (by simp (disch:=omega) only[go_sem]) (fun u u1 u2 u3=>by simp (disch:=omega) only[go_sem,u1,u2])
  ·have hj:=htf _ _ _ rfl
   rw[hl'] at h8
   simp (disch:=omega) only[go_sem,h7,h8,h12,h13,hrow2,hl',tk1,tk2]
   exact fin _ nx i2 (nx,70) (nx,74) _ _ _ _ (.ref (nx,70) (nx,70) 0 1) (.ref (i2,74) (nx,74) 0 (out.length+1)) (by omega) (by omega) (by omega) (by omega) (by rw[hz]) rfl (by rw[hn1];rfl) rfl (by simp (disch:=omega) only[go_sem]) (by simp (disch:=omega) only[go_sem]) (fun u u1 u2 u3=>by simp (disch:=omega) only[go_sem,u1,u2])
 ·have hj1:=hff _ _ _ rfl
  rw[hl] at h7
  rcases ht.fresh with ⟨rfl,hn2⟩ | ⟨i2,g2,rfl,hi2,hrow2⟩
  ·have hz : out.length = 0:=by rw[← hl',hn2];rfl
   simp (disch:=omega) only[go_sem,h7,h8,h12,h13,hrow1,hl,tk1,tk2]
   exact fin _ i1 nx (nx,70) (nx,74) _ _ _ _ (.ref (i1,70) (nx,70) 0 (out.length+1)) (.ref (nx,74) (nx,74) 0 1) (by omega) (by omega) (by omega) (by omega) rfl (by rw[hz]) rfl (by rw[hn2];rfl) (by simp (disch:=omega) only[go_sem]) (by simp (disch:=omega) only[go_sem]) (fun u u1 u2 u3=>by simp (disch:=omega) only[go_sem,u1,u2])
  ·have hj:=htf _ _ _ rfl
   rw[hl'] at h8
   simp (disch:=omega) only[go_sem,h7,h8,h12,h13,hrow1,hrow2,hl,hl',tk1,tk2]
   exact fin _ i1 i2 (nx,70) (nx,74) _ _ _ _ (.ref (i1,70) (nx,70) 0 (out.length+1)) (.ref (i2,74) (nx,74) 0 (out.length+1)) (by omega) (by omega) (by omega) (by omega) rfl rfl rfl rfl (by simp (disch:=omega) only[go_sem]) (by simp (disch:=omega) only[go_sem]) (fun u u1 u2 u3=>by simp (disch:=omega) only[go_sem,u1,u2])
theorem bw5 {kind set lo hi : Int} {l ks : List Nd} (hk : ab8 ks = true) (hlen : ks.length≤1000) (hks : ∀ i,i < ks.length→0 < l.length∧(kind = 5→i < l.length∧ks.getD i default = l.getD i default)∧(kind ≠ 5→ks.getD i default = l.getD 0 default)) (hpart : ∀ x ∈ ks,∀ t o nx b,QAt o nx t b false→QPre b→∃ v H',X7 [bp t,j5 x] ⟨o,nx⟩ v H') {cr : v8} (hP : cr 59 = B1 X7)
  {t r : Nat} {s : Int} {o0 : Ob} {nx0 : Nat} {b0 : BS} {a : v6} {o : Ob} {nx : Nat} {Q : s8} (hr : nx0≤r) (hrn : r < nx) (hnx : nx0≤nx) (hst : QAt o nx t b0 false∧QPre b0 ∨ ∃ b',b'.n≤1000∧QAt o nx t b' true∧1000 < (j6 (m4 ks) b0 []).2.n) (ho3 : o (r,3) = some (.row ⟨28,1,(r,3),false,true,[.int .i64 kind,.int .i64 set,.int .i64 lo,.int .i64 hi,slN l]⟩)) (h3 : a 3 = .ptr (r,3) (r,3) 0) (h7 : a 7 = .nil) (h8 : a 8 = .nil) (h9 : a 9 = .int .i64 ks.length) (h10 : a 10 = .int .i64 0) (h0 : a 0 = bp t) (h6 : a 6 = .int .i64 s) (hkp : QKeep t o0 nx0 o)
  (hQ1 : ∀ a o nx b out vf vt,nx0≤nx→r < nx→QAt o nx t b false→QPre b→j6 (m4 ks) b0 [] = (out,b)→out.length = ks.length→IAt 70 o nx vf (Q1 out)→IAt 74 o nx vt (Q2 out)→o (r,3) = some (.row ⟨28,1,(r,3),false,true,[.int .i64 kind,.int .i64 set,.int .i64 lo,.int .i64 hi,slN l]⟩)→a 3 = .ptr (r,3) (r,3) 0→a 7 = vf→a 8 = vt→a 0 = bp t→a 6 = .int .i64 s→QKeep t o0 nx0 o→Q .normal a o nx)
  (hQ2 : ∀ a o nx b',nx0≤nx→QAt o nx t b' true→b'.n≤1000→1000 < (j6 (m4 ks) b0 []).2.n→a 0 = bp t→a 6 = .int .i64 s→QKeep t o0 nx0 o→Q .normal a o nx) :
  WP (EX md0 (fun _ _=>none)) cr 3002 (fun _=>none) (u9 [1,1,1,1,1,1,1,0,1,0] (Tryz.f59.body.getD .skip)) a o nx (I8 0 Q):=by
 simp only[Tryz.f59,Option.getD_some,u9]
 refine o9 (fun m a o nx=>∃ (i : Nat) (vf vt : AV),i≤ks.length∧m = ks.length - i∧nx0≤nx∧r < nx∧a 7 = vf∧a 8 = vt∧((∃ b out,QAt o nx t b false∧QPre b∧j6 (m4 ks) b0 [] = j6 (m4 (ks.drop i)) b out∧out.length = i∧IAt 70 o nx vf (Q1 out)∧IAt 74 o nx vt (Q2 out)∧(∀ j g n,vf = .ref (j,70) g 0 n→nx0≤j)∧(∀ j g n,vt = .ref (j,74) g 0 n→nx0≤j)) ∨ ∃ b',b'.n≤1000∧QAt o nx t b' true∧1000 < (j6 (m4 ks) b0 []).2.n)∧o (r,3) = some (.row ⟨28,1,(r,3),false,true,[.int .i64 kind,.int .i64 set,.int .i64 lo,.int .i64 hi,slN l]⟩)∧a 3 = .ptr (r,3) (r,3) 0∧a 9 = .int .i64 ks.length∧a 10 = .int .i64 i∧a 0 = bp t∧a 6 = .int .i64 s∧QKeep t o0 nx0 o) ks.length (by omega) ⟨0,.nil,.nil,by omega,by omega,hnx,hrn,h7,h8,?_,ho3,h3,h9,h10,h0,h6,hkp⟩ ?_
 ·rcases hst with ⟨h1,h2⟩ | h
  ·exact .inl ⟨b0,[],h1,h2,rfl,rfl,HS.nil,HS.nil,fun j g n h=>(by cases h),fun j g n h=>(by cases h)⟩
  ·exact .inr h
 clear hst ho3 h3 h7 h8 h9 h10 h0 h6 hkp hnx hrn
 rintro m a o nx ⟨i,vf,vt,hi,rfl,hnx,hrn,h7,h8,hst,ho3,h3,h9,h10,h0,h6,hkp⟩
 rcases hst with ⟨b,out,hB,hpre,hbp,hout,hf,ht,hff,htf⟩ | ⟨b',hn',hB',hmuch⟩
 ·have hB':=hB
  obtain ⟨vS,vF,hR⟩:=hB'
  have hrow:=hR.row
  have htn:=hR.lt
  by_cases hlt : i < ks.length
  ·obtain ⟨q1,q2,q3⟩:=hks i hlt
   have hmem:=bH8 hlt
   have hx:=aO2 hk hlt
   have hdrop:=aj1 hlt
   obtain ⟨x,hxe⟩ : ∃ x,x = ks.getD i default:=⟨_,rfl⟩
   rw[← hxe] at hmem hx hdrop q2 q3
   rw[hdrop,aa9,if_neg (by have:=hpre.n;omega)] at hbp
   have hat0 : (G0 l).take 5 = cNd (l.getD 0 default):=by
    have:=ai9 q1
    rw[Nat.zero_mul,List.drop_zero] at this
    rw[this,aV7]
   have hl0 : (0 : Int) < l.length:=by omega
   have hsl : ∀ y z i' j',j' ≠ 11→upd (upd o (nx+1,11) y) (nx+1,11) z (i',j') = o (i',j'):=fun y z i' j' h=>by simp[b9,h]
   have hsn : ∀ y z i' j',i' < nx→upd (upd o (nx+1,11) y) (nx+1,11) z (i',j') = o (i',j'):=fun y z i' j' h=>by
    have : i' ≠ nx+1:=by omega
    simp[b9,this]
   have hsl3 : ∀ x y z i' j',j' ≠ 11→upd (upd (upd o (nx+1,11) x) (nx+1,11) y) (nx+1,11) z (i',j') = o (i',j'):=fun x y z i' j' h=>by simp[b9,h]
   have hsn3 : ∀ x y z i' j',i' < nx→upd (upd (upd o (nx+1,11) x) (nx+1,11) y) (nx+1,11) z (i',j') = o (i',j'):=fun x y z i' j' h=>by
    have : i' ≠ nx+1:=by omega
    simp[b9,this]
   obtain ⟨c17,h17⟩ : ∃ c,c = u9 [1,1,1,1,1,1,1,0,1,0,0,1,0,0,1,1,1] (Tryz.f59.body.getD .skip):=⟨_,rfl⟩
   have h17':=h17
   simp only[Tryz.f59,Option.getD_some,u9] at h17'
   rw[← h17']
   clear h17'
   by_cases h5 : kind = 5
   ·obtain ⟨q4,q5⟩:=q2 h5
    have hat:=ai9 q4
    rw[← q5] at hat
    simp (disch:=omega) only[go_sem,h0,h3,h6,h7,h8,h9,h10,hrow,ho3,hat,hat0,hl0,hP,h5]
    refine ag6 (hpart x hmem t _ _ b (hB.slot (fun i' j' hj'=>hsl3 _ _ _ i' j' (by omega)) (by omega)) hpre) (hB.slot (fun i' j' hj'=>hsl3 _ _ _ i' j' (by omega)) (by omega)) ?_
    intro s' e' o1 nx1 hle1 hk1 hres
    have k1 : QKeep t o nx o1:=(QKeep.new (hsn3 _ _ _)).trans hk1 (by omega)
    have hf1:=hf.keep (nx':=nx1) k1 (by decide) (by decide) (by decide) (by omega)
    have ht1:=ht.keep (nx':=nx1) k1 (by decide) (by decide) (by decide) (by omega)
    clear hk1
    simp (disch:=omega) only[go_sem,h0,h3,h6,h7,h8,h9,h10]
    rw[h17]
    refine aX0 (nx0:=nx0) (out:=out) (s:=s') (e:=e') (by omega) (by omega) (by simp (disch:=omega) only[go_sem,h7]) (by simp (disch:=omega) only[go_sem,h8]) (by simp (disch:=omega) only[go_sem]) (by simp (disch:=omega) only[go_sem]) (hf1.slot (fun _=>rfl) (by omega)) (ht1.slot (fun _=>rfl) (by omega)) hff htf ?_
    intro a' o2 nx2 vf' vt' hle2 hf2 ht2 hff2 htf2 ha7 ha8 hau ho2
    have ga0:=hau 0 (by decide) (by decide) (by decide)
    have ga3:=hau 3 (by decide) (by decide) (by decide)
    have ga6:=hau 6 (by decide) (by decide) (by decide)
    have ga9:=hau 9 (by decide) (by decide) (by decide)
    have ga10:=hau 10 (by decide) (by decide) (by decide)
    clear hau
    simp only[ai6,Nat.reduceEqDiff,if_true,if_false,h0,h3,h6,h9,h10] at ga0 ga3 ga6 ga9 ga10
    clear h0 h3 h6 h7 h8 h9 h10 h17
    simp (disch:=omega) only[go_sem,ga0,ga3,ga6,ga9,ga10,ha7,ha8]
    have k2 : QKeep t o0 nx0 o2:=(hkp.trans k1 hnx).trans (fun i' j' hi' _ _ _=>ho2 i' j' (.inl hi')) (by omega)
    have ho32:=(ho2 r 3 (.inr (by decide))).trans (k1.row ho3 hrn (fun e=>absurd e (by decide)) (by decide) (by decide))
    have hqs : ∀ b m,QAt o1 nx1 t b m→QAt o2 (nx2+1) t b m:=fun b m h=>h.slot (fun i' j' hj'=>ho2 i' j' (.inr (by omega))) (by omega)
    refine ⟨_,?_,i+1,vf',vt',by omega,rfl,by omega,by omega,rfl,rfl,?_,(by rw[h5] at ho32;exact ho32),rfl,k2⟩
    ·omega
    ·rcases hres with ⟨u1,u2,u3⟩ | ⟨u1,b',u2,u3⟩
     ·refine .inl ⟨_,out++[(s',e')],hqs _ _ u3,aD2 hx.1 hpre u1,by rw[hbp,u2],by simp[hout],hf2.slot (fun _=>rfl) (by omega),ht2.slot (fun _=>rfl) (by omega),hff2,htf2⟩
     ·refine .inr ⟨b',u2,hqs _ _ u3,?_⟩
      rw[hbp]
      exact Nat.lt_of_lt_of_le u1 (am7 (aD1 hk _) _ _)
   ·have q5:=q3 h5
    rw[← q5] at hat0
    simp (disch:=omega) only[go_sem,h0,h3,h6,h7,h8,h9,h10,hrow,ho3,hat0,hl0,hP,h5]
    refine ag6 (hpart x hmem t _ _ b (hB.slot (fun i' j' hj'=>hsl _ _ i' j' (by omega)) (by omega)) hpre) (hB.slot (fun i' j' hj'=>hsl _ _ i' j' (by omega)) (by omega)) ?_
    intro s' e' o1 nx1 hle1 hk1 hres
    have k1 : QKeep t o nx o1:=(QKeep.new (hsn _ _)).trans hk1 (by omega)
    have hf1:=hf.keep (nx':=nx1) k1 (by decide) (by decide) (by decide) (by omega)
    have ht1:=ht.keep (nx':=nx1) k1 (by decide) (by decide) (by decide) (by omega)
    clear hk1
    simp (disch:=omega) only[go_sem,h0,h3,h6,h7,h8,h9,h10]
    rw[h17]
    refine aX0 (nx0:=nx0) (out:=out) (s:=s') (e:=e') (by omega) (by omega) (by simp (disch:=omega) only[go_sem,h7]) (by simp (disch:=omega) only[go_sem,h8]) (by simp (disch:=omega) only[go_sem]) (by simp (disch:=omega) only[go_sem]) (hf1.slot (fun _=>rfl) (by omega)) (ht1.slot (fun _=>rfl) (by omega)) hff htf ?_
    intro a' o2 nx2 vf' vt' hle2 hf2 ht2 hff2 htf2 ha7 ha8 hau ho2
    have ga0:=hau 0 (by decide) (by decide) (by decide)
    have ga3:=hau 3 (by decide) (by decide) (by decide)
    have ga6:=hau 6 (by decide) (by decide) (by decide)
    have ga9:=hau 9 (by decide) (by decide) (by decide)
    have ga10:=hau 10 (by decide) (by decide) (by decide)
    clear hau
    simp only[ai6,Nat.reduceEqDiff,if_true,if_false,h0,h3,h6,h9,h10] at ga0 ga3 ga6 ga9 ga10
    clear h0 h3 h6 h7 h8 h9 h10 h17
    simp (disch:=omega) only[go_sem,ga0,ga3,ga6,ga9,ga10,ha7,ha8]
    have k2 : QKeep t o0 nx0 o2:=(hkp.trans k1 hnx).trans (fun i' j' hi' _ _ _=>ho2 i' j' (.inl hi')) (by omega)
    have ho32:=(ho2 r 3 (.inr (by decide))).trans (k1.row ho3 hrn (fun e=>absurd e (by decide)) (by decide) (by decide))
    have hqs : ∀ b m,QAt o1 nx1 t b m→QAt o2 (nx2+1) t b m:=fun b m h=>h.slot (fun i' j' hj'=>ho2 i' j' (.inr (by omega))) (by omega)
    refine ⟨_,?_,i+1,vf',vt',by omega,rfl,by omega,by omega,rfl,rfl,?_,ho32,rfl,k2⟩
    ·omega
    ·rcases hres with ⟨u1,u2,u3⟩ | ⟨u1,b',u2,u3⟩
     ·refine .inl ⟨_,out++[(s',e')],hqs _ _ u3,aD2 hx.1 hpre u1,by rw[hbp,u2],by simp[hout],hf2.slot (fun _=>rfl) (by omega),ht2.slot (fun _=>rfl) (by omega),hff2,htf2⟩
     ·refine .inr ⟨b',u2,hqs _ _ u3,?_⟩
      rw[hbp]
      exact Nat.lt_of_lt_of_le u1 (am7 (aD1 hk _) _ _)
  ·have hdr : ks.drop i = []:=List.drop_of_length_le (by omega)
   rw[hdr,m4,j6] at hbp
   simp (disch:=omega) only[go_sem,h0,h3,h6,h7,h8,h9,h10,hrow]
   exact hQ1 _ _ _ b out vf vt (by omega) (by omega) (hB.new (fun _ _ _=>rfl) (by omega)) hpre hbp (by omega) (hf.slot (fun _=>rfl) (by omega)) (ht.slot (fun _=>rfl) (by omega)) ho3 (by simp (disch:=omega) only[go_sem,h3]) (by simp (disch:=omega) only[go_sem,h7]) (by simp (disch:=omega) only[go_sem,h8]) (by simp (disch:=omega) only[go_sem,h0]) (by simp (disch:=omega) only[go_sem,h6]) hkp
 ·have hB'':=hB'
  obtain ⟨vS,vF,hR⟩:=hB''
  have hrow:=hR.row
  by_cases hlt : i < ks.length
  ·simp (disch:=omega) only[go_sem,h0,h3,h6,h7,h8,h9,h10,hrow]
   exact hQ2 _ _ _ b' (by omega) (hB'.new (fun _ _ _=>rfl) (by omega)) hn' hmuch (by simp (disch:=omega) only[go_sem,h0]) (by simp (disch:=omega) only[go_sem,h6]) hkp
  ·simp (disch:=omega) only[go_sem,h0,h3,h6,h7,h8,h9,h10,hrow]
   exact hQ2 _ _ _ b' (by omega) (hB'.new (fun _ _ _=>rfl) (by omega)) hn' hmuch (by simp (disch:=omega) only[go_sem,h0]) (by simp (disch:=omega) only[go_sem,h6]) hkp
end Go.Proofs.YtpmjpogcaglphaaGreatDoor.A
