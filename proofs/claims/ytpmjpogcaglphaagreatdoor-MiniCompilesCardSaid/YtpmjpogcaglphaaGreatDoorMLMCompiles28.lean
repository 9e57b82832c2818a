/- The document's least machine. -/
import Derived.Test.YtpmjpogcaglphaaGreatDoorMLMCompiles27
import Derived.Test.YtpmjpogcaglphaaGreatDoorMLMCompiles26
set_option linter.unusedVariables false
set_option linter.unusedSimpArgs false
set_option linter.unnecessarySimpa false
namespace Go.Proofs.YtpmjpogcaglphaaGreatDoor.A
open Go
set_option maxRecDepth 20000
def aE6 (cl : Nat→Nat) (L : List Nat) (k : Nat) : Nat := match L.findIdx? (fun s=>cl s == k) with
 | some j=>j+1
 | none=>0
def rkL (cl : Nat→Nat) (n : Nat) (L : List Nat) : List Nat := (List.range n).map (aE6 cl L)
theorem aY7 (cl n L) : (rkL cl n L).length = n := by simp[rkL]
theorem dc2 {cl : Nat→Nat} {n : Nat} {L : List Nat} {k : Nat} (h : k < n) : (rkL cl n L).getD k 0 = aE6 cl L k := by
 unfold rkL
 rw[List.getD_eq_getElem?_getD,List.getElem?_map,List.getElem?_range h]
 rfl
theorem cD8 {cl : Nat→Nat} {L : List Nat} {to : Nat} (h : ¬ aE6 cl L (cl to) = 0) : aR7 cl L to = (aE6 cl L (cl to) - 1,L) := by
 unfold aE6 at *
 unfold aR7
 cases hf : L.findIdx? (fun s=>cl s == cl to) with
 | some j=>rfl
 | none=>rw[hf] at h;exact absurd rfl h
theorem cD9 {cl : Nat→Nat} {L : List Nat} {to : Nat} (h : aE6 cl L (cl to) = 0) : aR7 cl L to = (L.length,L++[to]) := by
 unfold aE6 at h
 unfold aR7
 cases hf : L.findIdx? (fun s=>cl s == cl to) with
 | some j=>rw[hf] at h;cases h
 | none=>rfl
theorem bQ6 {cl : Nat→Nat} {n : Nat} {L : List Nat} {to : Nat} (h : aE6 cl L (cl to) = 0) : (rkL cl n L).set (cl to) (L.length+1) = rkL cl n (L++[to]) := by
 refine List.ext_getElem (by simp[rkL]) fun i h1 h2=>?_
 have hi : i < n:=by simpa [rkL] using h2
 simp only[rkL,List.getElem_set,List.getElem_map,List.getElem_range]
 unfold aE6 at h ⊢
 rw[List.findIdx?_append]
 by_cases e : cl to = i
 ·rw[if_pos e]
  subst e
  cases hf : L.findIdx? (fun s=>cl s == cl to) with
  | some j=>rw[hf] at h;cases h
  | none=>simp[List.findIdx?_cons]
 ·rw[if_neg e]
  have : (List.findIdx? (fun s=>cl s == i) [to]) = none:=by simp[List.findIdx?_cons,e]
  rw[this]
  simp
theorem dc3 (cl n) : rkL cl n [] = List.replicate n 0 := by
 refine List.ext_getElem (by simp[rkL]) fun i h1 h2=>?_
 simp[rkL,aE6]
theorem dc4 {cl : Nat→Nat} {L : List Nat} {to : Nat} (h : aE6 cl L (cl to) = 0) : aE6 cl (L++[to]) (cl to) = L.length+1 := by
 unfold aE6 at h ⊢
 rw[List.findIdx?_append]
 cases hf : L.findIdx? (fun s=>cl s == cl to) with
 | some j=>rw[hf] at h;cases h
 | none=>simp[List.findIdx?_cons]
theorem dD5 (cl L k) : aE6 cl L k≤L.length := by
 unfold aE6
 cases hf : L.findIdx? (fun s=>cl s == k) with
 | some j =>
  obtain ⟨hk,_⟩:=List.findIdx?_eq_some_iff_getElem.1 hf
  exact hk
 | none=>exact Nat.zero_le _
theorem cr1 (cl : Nat→Nat) (n : Nat) (L : List Nat) (k v : Nat) (hk : k < n) : w9 (cI (nL (rkL cl n L))) k [.int .i64 (v : Int)] = cI (nL ((rkL cl n L).set k v)) := by
 rw[aJ7 _ _ _ (by rw[y5,aY7];exact hk)]
 simp[nL,List.map_set]
def RPt (args : List AV) (r : AV) : Prop := ∃ (n : Nat) (N : List Int) (A : List Bool),WfD n N A∧args = [S7 n N A]∧r = slI (nL (Y1 N A))
theorem dc5 : N2 RPt := by
 rintro args r r' ⟨n,N,A,_,rfl,rfl⟩ ⟨n',N',A',_,h,rfl⟩
 simp only[List.cons.injEq,and_true] at h
 obtain ⟨_,h1,h2⟩:=W0 h
 rw[h1,h2]
theorem dc6 (args r) (h : RPt args r) : Ok Tryz.prog 63 args r := by obtain ⟨n,N,A,h1,rfl,rfl⟩ := h;exact bQ3 h1
noncomputable def XPt : FuncId→List AV→Option AV := t7 [(63,D9 RPt)]
theorem dc7 : s6 Tryz.prog XPt := l8 (t6 _) (n8 dc6)
theorem bh1 {N A} (h : OkD N A) : (Y1 N A).length = A.length := by
 obtain ⟨_,_,_,c2,F1,c1,F2,h1,h2,he⟩:=an3 h
 exact h2.len
theorem dc8 {n : Nat} {N : List Int} {A : List Bool} (hw : WfD n N A) : XPt 63 [.agg [.sl n (cI N),.sl n (cB A)]] = some (.sl n (cI (nL (Y1 N A)))) := by
 have:=o8 (R:=RPt) dc5 ⟨n,N,A,hw,rfl,rfl⟩
 rw[S7,slB,hw.a,slI,y5,bh1 hw.okD,hw.a] at this
 exact this
def cO6 : Nat→Option (List (Nat × Nat))
 | 19=>some [(1,10)]
 | _=>none
theorem dc9 : d9 (EX md0 XPt) cO6 1 Tryz.f28 = true := by kernel_rfl
abbrev bo6 (A : List Bool) (L : List Nat) : List Bool := L.map fun s=>A.getD s false
theorem bo7 {cl : Nat→Nat} {nx : Nat→Nat→Nat} {r i : Nat} {L R : List Nat} {p : List Nat × List Nat} (h : goC cl nx r i L R = some p) : ∃ r',r = r'+1∧(L[i]? = none∧p = (L,R) ∨ ∃ x,L[i]? = some x∧goC cl nx r' (i+1) (Q3 cl nx x 5 L).2 (R++(Q3 cl nx x 5 L).1) = some p) := by
 cases r with
 | zero=>cases h
 | succ r =>
  refine ⟨r,rfl,?_⟩
  rw[goC] at h
  cases hx : L[i]? with
  | none =>
   rw[hx] at h
   injection h with h
   exact .inl ⟨rfl,h.symm⟩
  | some x =>
   rw[hx] at h
   exact .inr ⟨x,rfl,h⟩
set_option maxHeartbeats 4000000 in
theorem cE0 {n : Nat} {N : List Int} {A : List Bool} (hw : WfD n N A) :
  WP (EX md0 XPt) noR 2005 cO6 (Tryz.f28.body.getD .skip) (A2 [S7 n N A]) (fun _=>none) 0 (fun u a o nx=>u = .ret∧view o p9 ((N8 Tryz.prog 37 (a 2) ⟨o,nx⟩).getD .und) = S7 (W5 N A).length (an2 N A) (W5 N A)):=by
 have hn:=hw.sz
 have hN:=hw.l
 have hA:=hw.a
 have hO:=hw.okD
 have hpt:=dc8 hw
 have hrun:=(aE5 hO).run
 have hcl:=bo1 hO
 have hclen:=bh1 hO
 have hc0:=hcl 0
 have hres : S7 (W5 N A).length (an2 N A) (W5 N A) = .agg [.sl (V3 N A).1.length (cI (nL (V3 N A).2)),.sl (V3 N A).1.length (cB (bo6 A (V3 N A).1))]:=by
  rw[S7,slB,ah1];rfl
 rw[hres]
 generalize V3 N A = P at *
 generalize Y1 N A = c at *
 rw[hA] at hrun hcl hclen hc0
 simp only[Tryz.f28,Option.getD_some]
 rw[S7,slB,hA]
 have h0:=ae4 (l:=c) (i:=0) (s:=1) (by omega)
 rw[List.drop_zero] at h0
 have hr1 : w9 (cI (List.replicate n 0)) (c.getD 0 0) [.int .i64 1] = cI (nL (rkL (fun s=>c.getD s 0) n [0])):=by
  have h1 : (rkL (fun s=>c.getD s 0) n []).set (c.getD 0 0) 1 = rkL (fun s=>c.getD s 0) n [0]:=bQ6 (cl:=fun s=>c.getD s 0) (n:=n) (L:=[]) (to:=0) (by simp[aE6])
  have h2:=cr1 (fun s=>c.getD s 0) n [] (c.getD 0 0) 1 (by omega)
  rw[h1,dc3] at h2
  rw[show nL (List.replicate n 0) = List.replicate n 0 by simp[nL]] at h2
  exact h2
 simp (disch:=omega) only[go_sem,hpt,h0,ad2,hr1]
 have hcl2:=hcl
 obtain ⟨cl,hcle⟩ : ∃ cl : Nat→Nat,cl = fun s=>c.getD s 0:=⟨_,rfl⟩
 have hcla : ∀ s,c.getD s 0 = cl s:=fun s=>by rw[hcle]
 rw[← hcle] at hrun
 replace hcl : ∀ s,cl s < n:=fun s=>by rw[← hcla];exact hcl2 s
 refine o9 (fun mm a o nx=>∃ (r i : Nat) (L R : List Nat) (g : Tag) (vN vA : AV),goC cl (K7 N) r i L R = some P∧mm = r∧i≤L.length∧1≤L.length∧aH1 cl L∧R.length = i * 5∧(∀ s ∈ L,s < n)∧5≤nx∧o (0,1) = some (.row ⟨37,1,(0,1),false,true,[.sl n (cI N),.sl n (cB A)]⟩)∧o (0,2) = some (.row ⟨37,1,(0,2),false,true,[.nil,.nil]⟩)∧o (2,4) = some (.row ⟨37,1,(2,4),false,true,[vN,vA]⟩) ∧
   o (3,16) = some (.row ⟨3,1,(3,16),false,true,cI (nL (rkL cl n L))⟩)∧o (4,17) = some (.row ⟨3,1,g,false,true,cI (nL L)⟩)∧HS 48 5 77 o nx vN i (cI (nL R))∧HS 4 1 90 o nx vA i (cB (bo6 A (L.take i))) ∧
   a 1 = .ptr (0,1) (0,1) 0∧a 2 = .ptr (0,2) (0,2) 0∧a 3 = .sl n (cI (nL c))∧a 4 = .ptr (2,4) (2,4) 0∧a 5 = .ref (3,16) (3,16) 0 n∧a 6 = .ref (4,17) g 0 L.length∧a 7 = .int .i64 i) (n+2) (by omega)
  ⟨n+2,0,[0],[],(4,17),.nil,.nil,hrun,rfl,by simp,by simp,an4 _ 0,rfl,fun s hs=>by rw[List.mem_singleton.1 hs];omega,by omega,by simp (disch:=omega) only[go_sem],by simp (disch:=omega) only[go_sem],by simp (disch:=omega) only[go_sem],by simp (disch:=omega) only[go_sem];rw[hcle],by simp (disch:=omega) only[go_sem];rfl,HS.nil,HS.nil,by simp (disch:=omega) only[go_sem],by simp (disch:=omega) only[go_sem],by simp (disch:=omega) only[go_sem],by simp (disch:=omega) only[go_sem],by simp (disch:=omega) only[go_sem],by simp (disch:=omega) only[go_sem],by simp (disch:=omega) only[go_sem]⟩ ?_
 clear hrun hr1 h0
 rintro mm a o nx ⟨r,i,L,R,g,vN,vA,hG,rfl,hi,hL1,hD,hRl,hLn,hnx,ho1,ho2,ho4,ho16,ho17,hvN,hvA,h1,h2,h3,h4,h5,h6,h7⟩
 obtain ⟨r',rfl,hG'⟩:=bo7 hG
 clear hG
 by_cases hlt : i < L.length
 ·rcases hG' with ⟨hx,_⟩ | ⟨x,hx,hG⟩
  ·have:=List.getElem?_eq_none_iff.1 hx;omega
  have hxn:=hLn x (List.mem_of_getElem? hx)
  have hpre:=fun m=>(aE4 (nx:=K7 N) (x:=x) hD m)
  have hall:=fun m (hm : m≤5)=>ax1 (cl:=cl) (nx:=K7 N) (x:=x) (p:=fun s=>s < n) hLn m (fun j hj=>by rw[← hA];exact hO.next (by omega) (by omega))
  have hLc : L.length≤n:=ab2 hcl hD
  simp (disch:=omega) only[go_sem,h1,h2,h3,h4,h5,h6,h7]
  refine o9 (fun mm a o' nx'=>∃ (m : Nat) (g' : Tag),m≤5∧mm = 5 - m∧nx+3≤nx'∧Frz [1,2,4,77,90] nx o o' ∧
   o' (3,16) = some (.row ⟨3,1,(3,16),false,true,cI (nL (rkL cl n (Q3 cl (K7 N) x m L).2))⟩)∧o' (4,17) = some (.row ⟨3,1,g',false,true,cI (nL (Q3 cl (K7 N) x m L).2)⟩) ∧
   o' (nx+1,8) = some (.row ⟨48,1,(nx+1,8),false,true,cI (nL (Q3 cl (K7 N) x m L).1++List.replicate (5 - m) 0)⟩) ∧
   a 1 = .ptr (0,1) (0,1) 0∧a 2 = .ptr (0,2) (0,2) 0∧a 3 = .sl n (cI (nL c))∧a 4 = .ptr (2,4) (2,4) 0∧a 5 = .ref (3,16) (3,16) 0 n∧a 6 = .ref (4,17) g' 0 (Q3 cl (K7 N) x m L).2.length∧a 7 = .int .i64 i∧a 8 = .ptr (nx+1,8) (nx+1,8) 0∧a 9 = .int .i64 m) 5 (by omega)
   ⟨0,g,by omega,by omega,by omega,(Frz.refl _ _ _).upd (.inl (by omega)),by rw[B6 (by omega)];exact ho16,by rw[B6 (by omega)];exact ho17,d8 _ _ _,by simp (disch:=omega) only[go_sem,h1],by simp (disch:=omega) only[go_sem,h2],by simp (disch:=omega) only[go_sem,h3],by simp (disch:=omega) only[go_sem,h4],by simp (disch:=omega) only[go_sem,h5],by simp (disch:=omega) only[go_sem,h6];rfl,by simp (disch:=omega) only[go_sem,h7],by simp (disch:=omega) only[go_sem],by simp (disch:=omega) only[go_sem]⟩ ?_
  clear h1 h2 h3 h4 h5 h6 h7 ho16 ho17
  rintro mm a o' nx' ⟨m,g',hm,rfl,hnx',hkp,ho16,ho17,ho8,h1,h2,h3,h4,h5,h6,h7,h8,h9⟩
  have ho1':=(hkp 0 1 (by omega) (by decide)).trans ho1
  have ho2':=(hkp 0 2 (by omega) (by decide)).trans ho2
  have ho4':=(hkp 2 4 (by omega) (by decide)).trans ho4
  obtain ⟨hD',hpr,hRl',_⟩:=hpre m
  have hx':=hpr i x hx
  have hLn':=hall m hm
  have hLc':=ab2 hcl hD'
  by_cases hm5 : m < 5
  ·have hsucc : Q3 cl (K7 N) x (m+1) L = ((Q3 cl (K7 N) x m L).1++[(aR7 cl (Q3 cl (K7 N) x m L).2 (K7 N x m)).1],(aR7 cl (Q3 cl (K7 N) x m L).2 (K7 N x m)).2):=rfl
   have hent:=hO.e (x * 5+m) (by omega)
   have hto : N.getD (x * 5+m) 0 = ((K7 N x m : Nat) : Int):=by unfold K7;omega
   have hton : K7 N x m < n:=by rw[← hA];exact hO.next (by omega) hm5
   generalize K7 N x m = to at *
   have hltL : i < (Q3 cl (K7 N) x m L).2.length:=(List.getElem?_eq_some_iff.1 hx').1
   generalize (Q3 cl (K7 N) x m L).1 = R' at *
   generalize (Q3 cl (K7 N) x m L).2 = L' at *
   have q1:=ae4 (s:=1) hltL
   rw[G8 hx'] at q1
   have q2 : N4 false 1 (((cI N).drop (x * 5)).drop m) = some (.int .i64 (to : Nat)):=by
    rw[List.drop_drop,← hto];exact P6 (by omega)
   have q3:=ae4 (l:=c) (i:=to) (s:=1) (by omega)
   rw[hcla] at q3
   have q4:=ae4 (l:=rkL cl n L') (i:=cl to) (s:=1) (by rw[aY7];exact hcl to)
   rw[dc2 (hcl to)] at q4
   have hclto:=hcl to
   have hset:=fun k=>aj7 R' 5 m k hRl' hm5
   have hl8 : (cI (nL R'++List.replicate (5 - m) 0)).length = 5:=by rw[l9,List.length_append,y5,List.length_replicate];omega
   have hl16 : (cI (nL (rkL cl n L'))).length = n:=by rw[l9,y5,aY7]
   have hl16' : (cI (nL (rkL cl n (L'++[to])))).length = n:=by rw[l9,y5,aY7]
   by_cases hrk : aE6 cl L' (cl to) = 0
   ·rw[cD9 hrk] at hsucc
    have hrs:=cr1 cl n L' (cl to) (L'.length+1) (hcl to)
    rw[bQ6 hrk] at hrs
    have q5:=ae4 (l:=rkL cl n (L'++[to])) (i:=cl to) (s:=1) (by rw[aY7];exact hcl to)
    rw[dc2 (hcl to),dc4 hrk] at q5
    have hrk0 : ((aE6 cl L' (cl to) : Nat) : Int) = 0:=by rw[hrk];rfl
    rw[hrk0] at q4
    have hkl : (cI (nL L')).take L'.length = cI (nL L'):=j7 (by rw[l9,y5])
    have hset : w9 (cI (nL R'++List.replicate (5 - m) 0)) m [.int .i64 (((L'.length+1 : Nat) : Int) - 1)] = cI (nL (R'++[L'.length])++List.replicate (5 - (m+1)) 0):=by
     rw[← hset,show ((L'.length+1 : Nat) : Int) - 1 = (L'.length : Int) by omega]
    simp (disch:=omega) only[go_sem,cO6,h1,h2,h3,h4,h5,h6,h7,h8,h9,ho1',ho16,ho17,ho8,q1,q2,q3,q4,q5,hrs,hset,hl8,hl16,hl16',hkl,y5]
    exact ⟨5 - (m+1),by omega,m+1,(nx'+1+1+1,54),by omega,rfl,by omega,(((hkp.upd (.inr (by decide))).upd (.inr (by decide))).upd (.inr (by decide))).upd (.inl (by omega)),by rw[hsucc],by rw[hsucc];simp[nL,cI],by rw[hsucc],by rw[hsucc];simp,rfl⟩
   ·rw[cD8 hrk] at hsucc
    have hrk0 : ¬ ((aE6 cl L' (cl to) : Nat) : Int) = 0:=by omega
    have hcc : ((aE6 cl L' (cl to) : Nat) : Int) - 1 = ((aE6 cl L' (cl to) - 1 : Nat) : Int):=by omega
    have hset:=hset (aE6 cl L' (cl to) - 1)
    have hqle:=dD5 cl L' (cl to)
    generalize aE6 cl L' (cl to) = q at *
    rw[← hcc] at hset
    simp (disch:=omega) only[go_sem,cO6,h1,h2,h3,h4,h5,h6,h7,h8,h9,ho1',ho16,ho17,ho8,q1,q2,q3,q4,hset,hl8,hl16,hrk0]
    exact ⟨5 - (m+1),by omega,m+1,g',by omega,rfl,by omega,hkp.upd (.inl (by omega)),by rw[hsucc],by rw[hsucc],by rw[hsucc],by rw[hsucc],rfl⟩
  ·have hme : m = 5:=by omega
   subst hme
   have hLi : bo6 A ((Q3 cl (K7 N) x 5 L).2.take (i+1)) = bo6 A (L.take i)++[A.getD x false]:=by
    rw[List.take_add_one,hx']
    have : (Q3 cl (K7 N) x 5 L).2.take i = L.take i:=by
     refine List.ext_getElem? fun j=>?_
     rw[List.getElem?_take,List.getElem?_take]
     by_cases hj : j < i
     ·rw[if_pos hj,if_pos hj,hpr j _ (List.getElem?_eq_getElem (show j < L.length by omega)),List.getElem?_eq_getElem (show j < L.length by omega)]
     ·rw[if_neg hj,if_neg hj]
    rw[this]
    simp
   have hltL : i < (Q3 cl (K7 N) x 5 L).2.length:=(List.getElem?_eq_some_iff.1 hx').1
   generalize (Q3 cl (K7 N) x 5 L).1 = R' at *
   generalize (Q3 cl (K7 N) x 5 L).2 = L' at *
   have q1:=ae4 (s:=1) hltL
   rw[G8 hx'] at q1
   have q2:=L3 (l:=A) (i:=x) (s:=1) (by omega)
   have hvN':=hvN.keep (fun j hj=>hkp j 77 hj (by decide)) (show nx≤nx' by omega)
   have hvA':=hvA.keep (fun j hj=>hkp j 90 hj (by decide)) (show nx≤nx' by omega)
   rw[Nat.sub_self,List.replicate_zero,List.append_nil] at ho8
   have hl5 : (cI (nL R')).length = 5:=by rw[l9,y5,hRl']
   have htk5 : (cI (nL R')).take 5 = cI (nL R'):=j7 hl5
   have hok5:=bd9 (nL R')
   obtain ⟨j8,hj8,hap8⟩:=hvN'.app (nx'+1) 40 1 (cI (nL R')) (by omega) (by rw[hl5]) hok5 (by simp only[ab7];omega)
   obtain ⟨j9,hj9,hap9⟩:=hvA'.app (nx'+2) 1 1 [.bool (A.getD x false)] (by omega) rfl rfl (by simp only[ab7];omega)
   have hRR : cI (nL (R++R')) = cI (nL R)++cI (nL R'):=by rw[bQ1,P5]
   have hokN:=hvN'.ok
   have hokA:=hvA'.ok
   have hlR : (cI (nL R)).length = i * 5:=by rw[l9,y5,hRl]
   have hlAc : (cB (bo6 A (L.take i))).length = i * 1:=by rw[A3,List.length_map,List.length_take];omega
   simp (disch:=first | omega | (intro _;simp only[b9,Nat.reduceEqDiff,if_false])) only[go_sem,cO6,h1,h2,h3,h4,h5,h6,h7,h8,h9,ho1',ho4',ho8,ho17,q1,q2,hl5,htk5,hok5,hap8,hap9,hokN,hokA]
   refine ⟨r',by omega,r',i+1,L',R++R',g',_,_,hG,rfl,by omega,by omega,hD',by rw[List.length_append,hRl,hRl'];omega,hLn',by omega,ho2',rfl,ho16,rfl,?_,?_,rfl,rfl⟩
   ·rw[hRR]
    exact HS.grown (m:=1) (by omega) (by simp[b9]) hlR (by rw[hl5])
   ·rw[hLi,ah8]
    exact HS.grown (m:=1) (new:=[.bool (A.getD x false)]) (by omega) (by simp[b9]) hlAc rfl
 ·rcases hG' with ⟨hx,hP⟩ | ⟨x,hx,_⟩
  ·subst hP
   have hie : i = L.length:=by omega
   subst hie
   rw[List.take_length] at hvA
   have e1 : ∀ y,view (upd o (0,2) y) 1011 vN = .sl L.length (cI (nL R)):=fun y=>by rw[(hvN.keep (o':=upd o (0,2) y) (nx':=nx) (fun i hi=>by simp[b9]) (Nat.le_refl _)).view 1010,X5]
   have e2 : ∀ y,view (upd o (0,2) y) 1011 vA = .sl L.length (cB (bo6 A L)):=fun y=>by rw[(hvA.keep (o':=upd o (0,2) y) (nx':=nx) (fun i hi=>by simp[b9]) (Nat.le_refl _)).view 1010,be2]
   have e3:=hvN.ok
   have e4:=hvA.ok
   simp (disch:=omega) only[go_sem,cO6,h1,h2,h3,h4,h5,h6,h7,ho2,ho4,e1,e2,e3,e4]
  ·have:=(List.getElem?_eq_some_iff.1 hx).1;omega
theorem cE1 {n : Nat} {N : List Int} {A : List Bool} (hw : WfD n N A) : Ok Tryz.prog 28 [S7 n N A] (S7 (W5 N A).length (an2 N A) (W5 N A)) := by
 refine m7 (E:=EX md0 XPt) (cr:=noR) dc7 (q7 _) mixed (k:=2005) Tryz.func28 dc9 rfl (U2 (cE0 hw) ?_)
 rintro u a o nx ⟨rfl,h⟩
 refine ⟨.inr rfl,?_⟩
 simp only[Tryz.f28,R4,V8,V9,aa7]
 cases hl : N8 Tryz.prog 37 (a 2) ⟨o,nx⟩ with
 | none =>
  rw[hl] at h
  cases h
 | some v =>
  rw[hl] at h
  show wO (bt3 (N8 Tryz.prog 37 (a 2) ⟨o,nx⟩) (some [])) _
  rw[hl]
  exact h
def cE2 (args : List AV) (r : AV) : Prop := ∃ (n : Nat) (N : List Int) (A : List Bool),WfD n N A∧args = [S7 n N A]∧r = S7 (W5 N A).length (an2 N A) (W5 N A)
theorem bQ7 : N2 cE2 := by
 rintro args r r' ⟨n,N,A,_,rfl,rfl⟩ ⟨n',N',A',_,h,rfl⟩
 simp only[List.cons.injEq,and_true] at h
 obtain ⟨_,h1,h2⟩:=W0 h
 rw[h1,h2]
theorem ci4 (args r) (h : cE2 args r) : Ok Tryz.prog 28 args r := by obtain ⟨n,N,A,h1,rfl,rfl⟩ := h;exact cE1 h1
set_option maxRecDepth 20000
theorem ae5 : ∀ (x y : List Int),x.length = y.length→B5 (List.replicate x.length .int) (cI x) (cI y) = some (decide (x = y))
 | [],[],_=>rfl
 | [],_ :: _,h=>by simp at h
 | _ :: _,[],h=>by simp at h
 | a :: x,b :: y,h=>by
  have ih:=ae5 x y (by simpa using h)
  show (match aH5 .int (.int .i64 a) (.int .i64 b),B5 (List.replicate x.length .int) (cI x) (cI y) with | some a,some b=>some (a && b) | _,_=>none) = _
  rw[ih]
  simp only[aH5,if_true]
  by_cases h1 : a = b <;> by_cases h2 : x = y <;> simp[h1,h2]
theorem ec7 (P : Program) (t : TypeId) (x y : List AV) : Q4 P .eql t (.agg x) (.agg y) = (I4 P t).bind fun l=>(B5 l x y).map .bool := rfl
theorem ci5 {x y : List Int} (hx : x.length = 6) (hy : y.length = 6) : Q4 Tryz.prog .eql 141 (.agg (cI x)) (.agg (cI y)) = some (.bool (decide (x = y))) := by
 rw[ec7,cV0]
 have:=ae5 x y (by omega)
 rw[hx] at this
 show (B5 (List.replicate 6 .int) (cI x) (cI y)).map AV.bool = _
 rw[this]
 rfl
def aj8 (N : List Int) (c : List Nat) (s m : Nat) : List Nat := c.getD s 0 :: (List.range m).map fun j=>c.getD (N.getD (s * 5+j) 0).toNat 0
theorem aE7 (N c s m) : (aj8 N c s m).length = m+1 := by simp[aj8]
theorem by3 (N c s m) : aj8 N c s (m+1) = aj8 N c s m++[c.getD (N.getD (s * 5+m) 0).toNat 0] := by
 simp[aj8,List.range_succ]
theorem dd0 (X) : d9 (EX md0 X) (fun _=>none) 2 Tryz.f67 = true := by kernel_rfl
theorem cE3 {n : Nat} {N : List Int} {A : List Bool} (hw : WfD n N A) {c : List Nat} (hc : c.length = n) {s : Nat} (hs : s < n) : Ok Tryz.prog 67 [.fptr [.sl n (cI N),.sl n (cB A),.sl n (cI (nL c))],.int .i64 s] (.agg (cI (nL (w8 N c s)))) := by
 refine m7 (E:=EX md0 (fun _ _=>none)) (cr:=noR) (t6 _) (q7 _) mixed (k:=7) Tryz.func67 (dd0 _) rfl ?_
 have hn:=hw.sz
 have hN:=hw.l
 have h1:=ae4 (l:=c) (i:=s) (s:=1) (by omega)
 obtain ⟨row,hrw',hrow,htl,hok,htt,hl5⟩:=aY4 hN hs
 simp only[Tryz.f67,Option.getD_some]
 simp (disch:=omega) only[go_sem,h1,hl5,hrw',htl,hok,htt]
 refine o9 (fun m a o nx=>∃ j : Nat,j≤5∧m = 5 - j∧2≤nx∧a 0 = .fptr [.sl n (cI N),.sl n (cB A),.sl n (cI (nL c))]∧a 4 = .ptr (0,4) (0,4) 0∧a 5 = .ptr (1,5) (1,5) 0∧a 23 = .agg row∧a 24 = .int .i64 j∧o (0,4) = some (.row ⟨141,1,(0,4),false,true,cI [0,0,0,0,0,0]⟩)∧o (1,5) = some (.row ⟨141,1,(1,5),false,true,cI (nL (aj8 N c s j)++List.replicate (6 - (j+1)) 0)⟩)) 5 (by omega) ⟨0,by omega,by omega,by omega,by simp (disch:=omega) only[go_sem],by simp (disch:=omega) only[go_sem],by simp (disch:=omega) only[go_sem],by simp (disch:=omega) only[go_sem],by simp (disch:=omega) only[go_sem],by simp[b9,cI],by simp[b9,aj8,nL,cI]⟩ ?_
 rintro m a o nx ⟨j,hj,rfl,hnx,ha0,ha4,ha5,ha23,ha24,o4,o5⟩
 by_cases hj5 : j < 5
 ·have hat:=hrow j hj5
  have e1:=hw.get (k:=s * 5+j) (by omega)
  have hsucc:=by3 N c s j
  obtain ⟨x,hx⟩ : ∃ x,x = N.getD (s * 5+j) 0:=⟨_,rfl⟩
  rw[← hx] at hat e1 hsucc
  have c1:=ae4 (l:=c) (i:=x.toNat) (s:=1) (by omega)
  have hset:=aj7 (aj8 N c s j) 6 (j+1) (c.getD x.toNat 0) (aE7 N c s j) (by omega)
  rw[← hsucc] at hset
  have hj1 : (1+(j : Int)).toNat = j+1:=by omega
  have hl6 : (cI (nL (aj8 N c s j)++List.replicate (6 - (j+1)) 0)).length = 6:=by rw[l9,List.length_append,y5,List.length_replicate,aE7];omega
  simp (disch:=omega) only[go_sem,ha0,ha4,ha5,ha23,ha24,o4,o5,hat,c1,hset,hj1,hl6]
  exact ⟨_,by omega,j+1,by omega,rfl,rfl,rfl⟩
 ·have hj' : j = 5:=by omega
  subst hj'
  have hl6 : (cI (nL (aj8 N c s 5))).length = 6:=by rw[l9,y5,aE7]
  have htk : (cI (nL (aj8 N c s 5))).take 6 = cI (nL (aj8 N c s 5)):=j7 hl6
  have hok6:=bd9 (nL (aj8 N c s 5))
  have hr : w8 N c s = aj8 N c s 5:=rfl
  rw[hr]
  rw[show 6 - (5+1) = 0 from rfl,List.replicate_zero,List.append_nil] at o5
  generalize aj8 N c s 5 = K at *
  simp (disch:=omega) only[go_sem,ha0,ha4,ha5,ha23,ha24,o4,o5,hl6,htk,hok6]
  rw[show (cI [0,0,0,0,0,0]).drop 6 = [] from rfl,List.append_nil,htk,X5]
theorem dd1 (X) : d9 (EX md0 X) (fun _=>none) 2 Tryz.f69 = true := by kernel_rfl
theorem cE4 {x y : List Int} (hx : x.length = 6) (hy : y.length = 6) : Ok Tryz.prog 69 [.agg (cI x),.fptr (cI y)] (.bool (decide (x = y))) := by
 refine m7 (E:=EX md0 (fun _ _=>none)) (cr:=noR) (t6 _) (q7 _) mixed (k:=0) Tryz.func69 (dd1 _) rfl ?_
 have he:=ci5 hx hy
 have h1 : (cI x).length = 6:=by rw[l9,hx]
 have h2 : (cI y).length = 6:=by rw[l9,hy]
 have h3 : (cI x).take 6 = cI x:=j7 h1
 have h4 : (cI y).take 6 = cI y:=j7 h2
 have h5:=bd9 x
 simp only[Tryz.f69,Option.getD_some]
 simp (disch:=omega) only[go_sem,he,h1,h2,h3,h4,h5]
def kC (K : List (List Int)) : List AV := K.flatMap cI
theorem aY8 {K : List (List Int)} (h : ∀ x ∈ K,x.length = 6) : (kC K).length = K.length * 6 := by
 induction K with
 | nil=>rfl
 | cons x K ih =>
  have:=ih (fun y hy=>h y (List.mem_cons_of_mem _ hy))
  have hx:=h x (List.mem_cons_self ..)
  simp only[kC,List.flatMap_cons,List.length_append,l9,List.length_cons] at this ⊢
  omega
theorem dd2 (x y) : kC (x++y) = kC x++kC y := by simp[kC]
theorem cE5 (o d K) : (kC K).map (view o d) = kC K := by
 induction K with
 | nil=>rfl
 | cons x K ih =>
  have ih : (K.flatMap cI).map (view o d) = K.flatMap cI:=ih
  rw[kC,List.flatMap_cons,List.map_append,X5,ih]
theorem dD6 {K : List (List Int)} (h : ∀ x ∈ K,x.length = 6) {i : Nat} (hi : i < K.length) : ((kC K).drop (i * 6)).take 6 = cI (K.getD i [])∧6≤((kC K).drop (i * 6)).length := by
 have hl:=aY8 h
 refine ⟨?_,by rw[List.length_drop,hl];omega⟩
 induction K generalizing i with
 | nil=>simp at hi
 | cons x K ih =>
  have hx:=h x (List.mem_cons_self ..)
  have hK:=fun y hy=>h y (List.mem_cons_of_mem _ hy)
  cases i with
  | zero =>
   rw[kC,List.flatMap_cons,Nat.zero_mul,List.drop_zero,List.take_append_of_le_length (by rw[l9,hx];exact Nat.le_refl _),j7 (by rw[l9,hx])]
   rfl
  | succ i =>
   have hi : i < K.length:=by simpa using hi
   have:=ih hK hi (aY8 hK)
   rw[kC,List.flatMap_cons,show (i+1) * 6 = (cI x).length+i * 6 by rw[l9,hx];omega,List.drop_append]
   rw[List.drop_eq_nil_of_le (by omega),List.nil_append,Nat.add_sub_cancel_left]
   exact this
theorem cr2 : ∀ {K L : List (List Int)},(∀ x ∈ K,x.length = 6)→(∀ x ∈ L,x.length = 6)→kC K = kC L→K = L
 | [],[],_,_,_=>rfl
 | [],y :: L,_,h,e=>by
  have:=congrArg List.length e
  rw[aY8 h] at this
  simp[kC] at this
 | x :: K,[],h,_,e=>by
  have:=congrArg List.length e
  rw[aY8 h] at this
  simp[kC] at this
 | x :: K,y :: L,h,h',e=>by
  rw[kC,kC,List.flatMap_cons,List.flatMap_cons] at e
  have hl : (cI x).length = (cI y).length:=by rw[l9,l9,h x (List.mem_cons_self ..),h' y (List.mem_cons_self ..)]
  obtain ⟨e1,e2⟩:=List.append_inj e hl
  rw[V7 e1,cr2 (fun z hz=>h z (List.mem_cons_of_mem _ hz)) (fun z hz=>h' z (List.mem_cons_of_mem _ hz)) e2]
def ci6 (K : List (List Int)) (y : List Int) : Int := match K.findIdx? (fun x=>x == y) with
 | some k=>(k : Int)
 | none=>-1
def RF1 (args : List AV) (r : AV) : Prop := ∃ x y : List Int,x.length = 6∧y.length = 6∧args = [.agg (cI x),.fptr (cI y)]∧r = .bool (decide (x = y))
theorem dd3 : N2 RF1 := by
 rintro args r r' ⟨x,y,_,_,rfl,rfl⟩ ⟨x',y',_,_,h,rfl⟩
 simp only[List.cons.injEq,AV.agg.injEq,AV.fptr.injEq,and_true] at h
 rw[V7 h.1,V7 h.2]
theorem dd4 (args r) (h : RF1 args r) : Ok Tryz.prog 69 args r := by obtain ⟨x,y,h1,h2,rfl,rfl⟩ := h;exact cE4 h1 h2
noncomputable def XF1 : FuncId→List AV→Option AV := t7 [(69,D9 RF1)]
theorem dd5 : s6 Tryz.prog XF1 := l8 (t6 _) (n8 dd4)
theorem dd6 {x y : List Int} (hx : x.length = 6) (hy : y.length = 6) : XF1 69 [.agg (cI x),.fptr (cI y)] = some (.bool (decide (x = y))) := o8 (R := RF1) dd3 ⟨_,_,hx,hy,rfl,rfl⟩
abbrev dr3 (y : List Int) : AV := .fn (.func 69) [] [.fptr (cI y)]
theorem dd7 : d9 (EX md0 XF1) (fun _=>none) 2 Tryz.f68 = true := by kernel_rfl
theorem cE6 {K : List (List Int)} (hK : ∀ x ∈ K,x.length = 6) (hl : K.length≤100000) {y : List Int} (hy : y.length = 6) : Ok Tryz.prog 68 [.sl K.length (kC K),dr3 y] (.int .i64 (ci6 K y)) := by
 refine m7 (E:=EX md0 XF1) (cr:=noR) dd5 (q7 _) mixed (k:=K.length+1) Tryz.func68 dd7 rfl ?_
 simp only[Tryz.f68,Option.getD_some]
 simp (disch:=omega) only[go_sem]
 refine o9 (fun m a o nx=>∃ i : Nat,i≤K.length∧m = K.length - i∧(∀ q,q < i→K.getD q [] ≠ y)∧a 0 = .sl K.length (kC K)∧a 1 = dr3 y∧a 7 = .int .i64 K.length∧a 8 = .int .i64 i) K.length (by omega) ⟨0,by omega,by omega,fun q hq=>by omega,by simp (disch:=omega) only[go_sem],by simp (disch:=omega) only[go_sem],by simp (disch:=omega) only[go_sem],by simp (disch:=omega) only[go_sem]⟩ ?_
 rintro m a o nx ⟨i,hi,rfl,hno,ha0,ha1,ha7,ha8⟩
 by_cases hlt : i < K.length
 ·obtain ⟨h1,h2⟩:=dD6 hK hlt
  have hxl : (K.getD i []).length = 6:=by
   rw[List.getD_eq_getElem?_getD,List.getElem?_eq_getElem hlt]
   exact hK _ (List.getElem_mem ..)
  have hf:=dd6 hxl hy
  have hok:=bd9 (K.getD i [])
  have hl6 : (cI (K.getD i [])).length = 6:=by rw[l9,hxl]
  obtain ⟨z,hz⟩ : ∃ z,z = K.getD i []:=⟨_,rfl⟩
  rw[← hz] at h1 hf hok hl6
  by_cases he : z = y
  ·have hidx : ci6 K y = i:=by
    unfold ci6
    have : K.findIdx? (fun x=>x == y) = some i:=by
     rw[List.findIdx?_eq_some_iff_getElem]
     refine ⟨hlt,?_,fun q hq=>?_⟩
     ·rw[hz] at he
      simpa [List.getD,hlt] using he
     ·have:=hno q hq
      simpa [List.getD,show q < K.length by omega] using this
    rw[this]
   rw[decide_eq_true he] at hf
   rw[hidx]
   simp (disch:=omega) only[go_sem,ha0,ha1,ha7,ha8,h1,h2,hf,hok,hl6]
  ·rw[decide_eq_false he] at hf
   have hno' : ∀ q,q < i+1→K.getD q [] ≠ y:=fun q hq=>by
    by_cases hqi : q = i
    ·rw[hqi,← hz];exact he
    ·exact hno q (by omega)
   simp (disch:=omega) only[go_sem,ha0,ha1,ha7,ha8,h1,h2,hf,hok,hl6]
   exact ⟨_,by omega,i+1,by omega,rfl,hno',rfl⟩
 ·have hidx : ci6 K y = -1:=by
   unfold ci6
   have : K.findIdx? (fun x=>x == y) = none:=by
    rw[List.findIdx?_eq_none_iff]
    intro x hx
    obtain ⟨q,hq,rfl⟩:=List.getElem_of_mem hx
    have:=hno q (by omega)
    simpa [List.getD,hq] using this
   rw[this]
  rw[hidx]
  simp (disch:=omega) only[go_sem,ha0,ha1,ha7,ha8]
set_option maxRecDepth 20000
theorem dD7 (P : Program) (t : TypeId) (x y : List AV) : Q4 P .neq t (.agg x) (.agg y) = (I4 P t).bind fun l=>(B5 l x y).map fun z=>.bool (!z) := rfl
theorem ci7 {x y : List Int} (hx : x.length = 5) (hy : y.length = 5) : Q4 Tryz.prog .neq 48 (.agg (cI x)) (.agg (cI y)) = some (.bool (!decide (x = y))) := by
 rw[dD7,dx4]
 have:=ae5 x y (by omega)
 rw[hx] at this
 show (B5 (List.replicate 5 .int) (cI x) (cI y)).map (fun z=>AV.bool (!z)) = _
 rw[this]
 rfl
def by4 (N : List Int) (i : Nat) : List Int := (N.drop (i * 5)).take 5
theorem bo8 {N : List Int} {n i : Nat} (hN : N.length = 5 * n) (hi : i < n) : (by4 N i).length = 5 := by
 rw[by4,List.length_take,List.length_drop];omega
theorem aL3 {N : List Int} {n i : Nat} (hN : N.length = 5 * n) (hi : i < n) : ((cI N).drop (i * 5)).take 5 = cI (by4 N i)∧5≤((cI N).drop (i * 5)).length := by
 refine ⟨by rw[bF1,be0];rfl,?_⟩
 rw[List.length_drop,l9];omega
theorem bQ8 : ∀ {n : Nat} {N M : List Int},N.length = 5 * n→M.length = 5 * n→(∀ i,i < n→by4 N i = by4 M i)→N = M
 | 0,N,M,h,h',_=>by
  rw[List.length_eq_zero_iff.1 (show N.length = 0 by omega),List.length_eq_zero_iff.1 (show M.length = 0 by omega)]
 | n+1,N,M,h,h',hr=>by
  have h0:=hr 0 (by omega)
  rw[by4,by4,Nat.zero_mul,List.drop_zero,List.drop_zero] at h0
  have ih:=bQ8 (n:=n) (N:=N.drop 5) (M:=M.drop 5) (by rw[List.length_drop];omega) (by rw[List.length_drop];omega) (fun i hi=>by
   have:=hr (i+1) (by omega)
   rw[by4,by4,show (i+1) * 5 = 5+i * 5 by omega,← List.drop_drop,← List.drop_drop] at this
   exact this)
  rw[← List.take_append_drop 5 N,← List.take_append_drop 5 M,h0,ih]
theorem cE7 (X) : d9 (EX md0 X) (fun _=>none) 2 Tryz.f11 = true := by kernel_rfl
theorem ci8 {n k : Nat} {N M : List Int} {A B : List Bool} (hN : N.length = 5 * n) (hM : M.length = 5 * k) (hn : n≤100000) (hA : A.length = n) (hB : B.length = k) : Ok Tryz.prog 11 [S7 n N A,S7 k M B] (.bool (decide (A = B∧N = M))) := by
 refine m7 (E:=EX md0 (fun _ _=>none)) (cr:=noR) (t6 _) (q7 _) mixed (k:=n+1) Tryz.func11 (cE7 _) rfl ?_
 simp only[Tryz.f11,Option.getD_some]
 by_cases hnk : n = k
 ·subst hnk
  rw[S7,slB,S7,slB,hA,hB]
  simp (disch:=omega) only[go_sem]
  refine o9 (fun m a o nx=>∃ i,i≤n∧m = n - i∧(∀ q,q < i→by4 N q = by4 M q)∧A.take i = B.take i∧a 2 = .ptr (0,2) (0,2) 0∧a 3 = .ptr (0,3) (0,3) 0∧a 5 = .int .i64 i∧o (0,2) = some (.row ⟨37,1,(0,2),false,true,[.sl n (cI N),.sl n (cB A)]⟩)∧o (0,3) = some (.row ⟨37,1,(0,3),false,true,[.sl n (cI M),.sl n (cB B)]⟩)) n (by omega) ⟨0,by omega,by omega,fun q hq=>by omega,rfl,by simp (disch:=omega) only[go_sem],by simp (disch:=omega) only[go_sem],by simp (disch:=omega) only[go_sem],by simp (disch:=omega) only[go_sem],by simp (disch:=omega) only[go_sem]⟩ ?_
  rintro m a o nx ⟨i,hi,rfl,hall,htk,h2,h3,h5,ho2,ho3⟩
  by_cases hlt : i < n
  ·obtain ⟨c1,c2⟩:=aL3 hN hlt
   obtain ⟨c3,c4⟩:=aL3 hM hlt
   have l1:=bo8 hN hlt
   have l2:=bo8 hM hlt
   have hs:=ci7 l1 l2
   obtain ⟨x,hx⟩ : ∃ x,x = by4 N i:=⟨_,rfl⟩
   obtain ⟨y,hy⟩ : ∃ y,y = by4 M i:=⟨_,rfl⟩
   rw[← hx] at c1 hs
   rw[← hy] at c3 hs
   have g1:=L3 (l:=A) (i:=i) (s:=1) (by omega)
   have g2:=L3 (l:=B) (i:=i) (s:=1) (by omega)
   have hs1:=q8 (l:=A) (i:=i) (by omega) false
   have hs2:=q8 (l:=B) (i:=i) (by omega) false
   generalize hp : A.getD i false = p at g1 hs1
   generalize hq : B.getD i false = q at g2 hs2
   by_cases he : x = y
   ·rw[decide_eq_true he] at hs
    by_cases hpq : p = q
    ·have hbe : (p == q) = true:=by rw[hpq];exact beq_self_eq_true _
     simp (disch:=omega) only[go_sem,h2,h3,h5,ho2,ho3,c1,c2,c3,c4,hs,g1,g2,hbe,Bool.not_true,Bool.not_false]
     refine ⟨_,by omega,i+1,by omega,rfl,fun q' hq'=>?_,by rw[hs1,hs2,htk,hpq],rfl⟩
     by_cases hqi : q' = i
     ·rw[hqi,← hx,← hy,he]
     ·exact hall q' (by omega)
    ·have hbe : (p == q) = false:=beq_false_of_ne hpq
     rw[decide_eq_false (fun e=>hpq (by rw[← hp,← hq,e.1]))]
     simp (disch:=omega) only[go_sem,h2,h3,h5,ho2,ho3,c1,c2,c3,c4,hs,g1,g2,hbe,Bool.not_true,Bool.not_false]
   ·rw[decide_eq_false he] at hs
    rw[decide_eq_false (fun e=>he (by rw[hx,hy,e.2]))]
    simp (disch:=omega) only[go_sem,h2,h3,h5,ho2,ho3,c1,c2,c3,c4,hs,g1,g2,Bool.not_true,Bool.not_false]
  ·rw[decide_eq_true ⟨by rw[← List.take_of_length_le (l:=A) (i:=i) (by omega),htk,List.take_of_length_le (by omega)],bQ8 hN hM (fun q hq=>hall q (by omega))⟩]
   simp (disch:=omega) only[go_sem,h2,h3,h5,ho2,ho3]
 ·rw[decide_eq_false (fun e=>hnk (by rw[e.2] at hN;omega))]
  have hnk' : ¬ (n : Int) = k:=by omega
  simp (disch:=omega) only[go_sem,hnk']
def RSa (args : List AV) (r : AV) : Prop := ∃ (n k : Nat) (N M : List Int) (A B : List Bool),N.length = 5 * n∧M.length = 5 * k∧n≤100000∧A.length = n∧B.length = k∧args = [S7 n N A,S7 k M B]∧r = .bool (decide (A = B∧N = M))
theorem dd8 : N2 RSa := by
 rintro args r r' ⟨n,k,N,M,A,B,_,_,_,_,_,rfl,rfl⟩ ⟨n',k',N',M',A',B',_,_,_,_,_,h,rfl⟩
 simp only[List.cons.injEq,and_true] at h
 obtain ⟨_,h1,h2⟩:=W0 h.1
 obtain ⟨_,h3,h4⟩:=W0 h.2
 rw[h1,h2,h3,h4]
theorem cE8 (args r) (h : RSa args r) : Ok Tryz.prog 11 args r := by obtain ⟨n,k,N,M,A,B,h1,h2,h3,h4,h5,rfl,rfl⟩ := h;exact ci8 h1 h2 h3 h4 h5
end Go.Proofs.YtpmjpogcaglphaaGreatDoor.A
