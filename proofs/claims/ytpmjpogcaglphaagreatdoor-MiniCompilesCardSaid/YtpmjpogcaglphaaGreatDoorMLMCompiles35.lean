/- The document's reader: what its methods tell; atom. -/
import Derived.Test.YtpmjpogcaglphaaGreatDoorMLMCompiles34
import Derived.Test.YtpmjpogcaglphaaGreatDoorMLMCompiles32
set_option linter.unusedVariables false
set_option linter.unusedSimpArgs false
set_option linter.unnecessarySimpa false
namespace Go.Proofs.YtpmjpogcaglphaaGreatDoor.A
open Go
set_option maxRecDepth 20000
structure RSpec where
 ok : List UInt8→Int→Int→Nd→Int→Prop
 bad : List UInt8→Int→Int→Int→Int→Prop
def RdPost (r : Nat) (s : List UInt8) (d : Int) (ok : Nd→Int→Prop) (bad : Int→Int→Prop) (o : Ob) (nx : Nat) (v : AV) (o' : Ob) (nx' : Nat) : Prop :=
 nx≤nx'∧KeepR r nx o o'∧(∀ q ∈ d5 o' p9 v,nx≤q.1)∧∃ n,A.view o' p9 v = j5 n∧((∃ P',ok n P'∧Rdr o' nx' r s P' d 0) ∨ (∃ P' d' e,e ≠ 0∧bad P' e∧Rdr o' nx' r s P' d' e))
def RRd (f : FuncId) (sp : RSpec) (args : List AV) (H : AH) (v : AV) (H' : AH) : Prop := OkR Tryz.prog f args H v H'∧∀ r s P d,args = [rdP r]→Rdr H.o H.nx r s P d 0→RdPost r s d (sp.ok s P d) (sp.bad s P d) H.o H.nx v H'.o H'.nx
theorem ae6 {f : FuncId} {sp : RSpec} {r nx : Nat} {o : Ob} {s P d} {K : AV × AH→Prop} (hex : ∃ v H',RRd f sp [rdP r] ⟨o,nx⟩ v H') (h : Rdr o nx r s P d 0)
  (hK : ∀ n o' nx',nx≤nx'→KeepR r nx o o'→((∃ P',sp.ok s P d n P'∧Rdr o' nx' r s P' d 0) ∨ (∃ P' d' e,e ≠ 0∧sp.bad s P d P' e∧Rdr o' nx' r s P' d' e))→K (j5 n,⟨o',nx'⟩)) :
  wO (Option.map (fun p=>t8 true p.1 p.2) (B1 (RRd f sp) [rdP r] ⟨o,nx⟩)) K:=by
 refine by7 hex fun v H' o'' hr ho=>?_
 obtain ⟨h1,h2,h3,n,h4,h5⟩:=hr.2 r s P d rfl h
 rw[h4]
 have hnm : ∀ i k,i < nx→o'' (i,k) = H'.o (i,k):=fun i k hi=>ho (i,k) (fun hm=>by have:=h3 _ hm;have h' : nx≤i:=this;omega)
 refine hK n o'' H'.nx h1 (fun i k a b=>by rw[hnm i k a,h2 i k a b]) ?_
 rcases h5 with ⟨P',a,b⟩ | ⟨P',d',e,a,b,c⟩
 ·exact .inl ⟨P',a,b.to (Nat.le_refl _) (by rw[hnm r 13 h.lt];exact b.row)⟩
 ·exact .inr ⟨P',d',e,a,b,c.to (Nat.le_refl _) (by rw[hnm r 13 h.lt];exact c.row)⟩
theorem aF3 {E : Env} {cr : v8} (hP : E.P = Tryz.prog) (hX : s6 E.P E.ext) (hR : x8 E.P cr∧Up cr) (hm : E.P.follows .mixedOrders = true) {k : Nat} {nz : Nat→Option (List (Nat × Nat))} {fn : Func} {f : FuncId} {sp : RSpec} {r nx : Nat} {o : Ob} {s P d}
  (hf : E.P.funcs[f]? = some fn) (hl : d9 E nz 1 fn = true) (hb : fn.body = some (fn.body.getD .skip)) (h : Rdr o nx r s P d 0)
  (hw : WP E cr k nz (fn.body.getD .skip) (A2 [rdP r]) o nx (fun u a o' nx'=>(u = .normal ∨ u = .ret)∧wO (s7 E.P a ⟨o',nx'⟩ fn.results.toList) (fun vs=>RdPost r s d (sp.ok s P d) (sp.bad s P d) o nx (ac3 vs) o' nx'))) :
  ∃ v H',RRd f sp [rdP r] ⟨o,nx⟩ v H':=by
 obtain ⟨v,H',h1,h2⟩:=D6 (args:=[rdP r]) (Post:=fun v o' nx'=>RdPost r s d (sp.ok s P d) (sp.bad s P d) o nx v o' nx') hX hR hm hf hl hb hw
 refine ⟨v,H',hP ▸ h1,fun r' s' P' d' e h'=>?_⟩
 simp only[List.cons.injEq,AV.ptr.injEq,Prod.mk.injEq,and_true] at e
 obtain rfl : r = r':=e.1
 obtain ⟨rfl,rfl,rfl,_⟩:=h.inj h'
 exact h2
theorem RdPost.ok_mk {r : Nat} {s : List UInt8} {d : Int} {ok : Nd→Int→Prop} {bad : Int→Int→Prop} {o : Ob} {nx : Nat} {v : AV} {o' : Ob} {nx' : Nat} (n : Nd) (P' : Int) (hn : nx≤nx') (hk : KeepR r nx o o') (hv : A.view o' p9 v = j5 n) (ht : d5 o' p9 v = []) (hok : ok n P') (hR : Rdr o' nx' r s P' d 0) : RdPost r s d ok bad o nx v o' nx' :=
 ⟨hn,hk,fun q hq=>(by rw[ht] at hq;cases hq),n,hv,.inl ⟨P',hok,hR⟩⟩
theorem RdPost.bad_mk {r : Nat} {s : List UInt8} {d : Int} {ok : Nd→Int→Prop} {bad : Int→Int→Prop} {o : Ob} {nx : Nat} {v : AV} {o' : Ob} {nx' : Nat} (n : Nd) (P' d' e : Int) (hn : nx≤nx') (hk : KeepR r nx o o') (hv : A.view o' p9 v = j5 n) (ht : d5 o' p9 v = []) (he : e ≠ 0) (hbad : bad P' e) (hR : Rdr o' nx' r s P' d' e) : RdPost r s d ok bad o nx v o' nx' :=
 ⟨hn,hk,fun q hq=>(by rw[ht] at hq;cases hq),n,hv,.inr ⟨P',d',e,he,hbad,hR⟩⟩
theorem ae7 (o : Ob) (n : Nd) : A.view o p9 (.agg (cNd n)) = j5 n := by
 show AV.agg ((cNd n).map (A.view o 1011)) = _
 rw[al9]
theorem ae8 (o : Ob) (n : Nd) : d5 o p9 (.agg (cNd n)) = [] := aw3 o 1011 n
theorem an9 (o : Ob) (k s lo hi : Int) : A.view o p9 (.agg [.int .i64 k,.int .i64 s,.int .i64 lo,.int .i64 hi,.nil]) = j5 (.mk k s lo hi []) := by
 rw[j5,n7,slN,r8];rfl
theorem ao0 (o : Ob) (k s lo hi : Int) : d5 o p9 (.agg [.int .i64 k,.int .i64 s,.int .i64 lo,.int .i64 hi,.nil]) = [] := rfl
theorem J2 (o : Ob) (k s lo hi : Int) (l : List Nd) : A.view o p9 (.agg [.int .i64 k,.int .i64 s,.int .i64 lo,.int .i64 hi,slN l]) = j5 (.mk k s lo hi l) := by rw[← n7];exact ae7 _ _
theorem J3 (o : Ob) (k s lo hi : Int) (l : List Nd) : d5 o p9 (.agg [.int .i64 k,.int .i64 s,.int .i64 lo,.int .i64 hi,slN l]) = [] := by rw[← n7];exact ae8 _ _
def bX0 (s : List UInt8) (P : Int) (J : List Nd) : Prop := J = [] ∨ (¬ (s.length : Int)≤P∧z7 s P ≠ 124∧z7 s P ≠ 41∧G5 (z7 s P) = 0)
def spG : RSpec where
 ok s P d n P':=P < P'∧P'≤s.length∧∀ U J (B : Lvs),(B.length : Int) = d→pG s P [] [] ((U,J) :: B) = pG s P' U (J++[n]) B
 bad s P d P' e:=∀ U J (B : Lvs),(B.length : Int) = d→pG s P [] [] ((U,J) :: B) = (B2,P',e)
def spA : RSpec where
 ok s P d n P':=P < P'∧P'≤s.length∧∀ U J (B : Lvs),(B.length : Int) = d→bX0 s P J→pG s P U J B = pG s P' U (J++[n]) B
 bad s P d P' e:=∀ U J (B : Lvs),(B.length : Int) = d→bX0 s P J→pG s P U J B = (B2,P',e)
def spP : RSpec where
 ok s P d n P':=P < P'∧P'≤s.length∧((s.length : Int)≤P' ∨ G5 (z7 s P') = 0)∧∀ U J (B : Lvs),(B.length : Int) = d→bX0 s P J→pG s P U J B = pG s P' U (J++[n]) B
 bad s P d P' e:=∀ U J (B : Lvs),(B.length : Int) = d→bX0 s P J→pG s P U J B = (B2,P',e)
def spJ : RSpec where
 ok s P d n P':=P < P'∧P'≤s.length∧((s.length : Int)≤P' ∨ z7 s P' = 124 ∨ z7 s P' = 41)∧∀ U (B : Lvs),(B.length : Int) = d→∃ J,J ≠ []∧A6 4 J = n∧pG s P U [] B = pG s P' U J B
 bad s P d P' e:=∀ U (B : Lvs),(B.length : Int) = d→pG s P U [] B = (B2,P',e)
def spU : RSpec where
 ok s P d n P':=P < P'∧P'≤s.length∧((s.length : Int)≤P' ∨ z7 s P' = 41)∧∀ (B : Lvs),(B.length : Int) = d→∃ U J,J ≠ []∧A6 5 (U++[A6 4 J]) = n∧pG s P [] [] B = pG s P' U J B
 bad s P d P' e:=∀ (B : Lvs),(B.length : Int) = d→pG s P [] [] B = (B2,P',e)
def Can (f : FuncId) (sp : RSpec) (s : List UInt8) (m M : Int) : Prop := ∀ (r nx : Nat) (o : Ob) (P d : Int),m≤P→0≤P→P≤s.length→0≤d→d≤M→Rdr o nx r s P d 0→∃ v H',RRd f sp [rdP r] ⟨o,nx⟩ v H'
theorem bz4 {s : List UInt8} {P : Int} {U J B} (h : (s.length : Int)≤P) (hJ : bX0 s P J) : pG s P U J B = (B2,P,3) := by
 rcases hJ with rfl | hJ
 ·rw[X9,if_pos h,if_pos (.inr rfl)]
 ·exact absurd h hJ.1
theorem cH0 {s : List UInt8} {P : Int} {U J} {B : Lvs} (h : ¬ (s.length : Int)≤P) (hb : z7 s P = 40) (hB : (30 : Int)≤B.length) : pG s P U J B = (B2,P,4) := by
 rw[X9,if_neg h,hb,if_neg (by decide),if_neg (by decide),if_pos rfl,if_pos (by omega)]
theorem bq4 {s : List UInt8} {P : Int} {U J} {B : Lvs} (h : ¬ (s.length : Int)≤P) (hb : z7 s P = 40) (hB : (B.length : Int) < 30) : pG s P U J B = pG s (P+1) [] [] ((U,J) :: B) := by
 rw[X9,if_neg h,hb,if_neg (by decide),if_neg (by decide),if_pos rfl,if_neg (by omega)]
theorem ao1 {s : List UInt8} {P : Int} {U J B} (h : ¬ (s.length : Int)≤P) {n : Nd} (hp : F8 (z7 s P) = n) (hn : ab6 n ≠ 0) : pG s P U J B = pG s (P+1) U (J++[n]) B := by
 rw[X9,if_neg h,if_pos (by rw[hp];exact hn),hp]
theorem dh2 {s : List UInt8} {P : Int} {U J B} (h : ¬ (s.length : Int)≤P) (hb : z7 s P = 91) : pG s P U J B = if (B8 s (s.length - (P+1).toNat) (P+1) 0).2.1 = false then (B2,(B8 s (s.length - (P+1).toNat) (P+1) 0).2.2,3) else pG s ((B8 s (s.length - (P+1).toNat) (P+1) 0).2.2+1) U (J++[.mk 1 (B8 s (s.length - (P+1).toNat) (P+1) 0).1 0 0 []]) B := by
 rw[X9,if_neg h,hb,if_neg (by decide),if_pos rfl]
theorem cH1 {s : List UInt8} {P : Int} {U J B} (h : ¬ (s.length : Int)≤P) (hp : ab6 (F8 (z7 s P)) = 0) (h1 : z7 s P ≠ 91) (h2 : z7 s P ≠ 40) (hJ : bX0 s P J) : pG s P U J B = (B2,P,3) := by
 rw[X9,if_neg h,if_neg (by rw[hp];simp),if_neg h1,if_neg h2]
 by_cases hJ0 : J = []
 ·rw[if_pos hJ0]
 ·rcases hJ with hJ | ⟨_,h3,h4,h5⟩
  ·exact absurd hJ hJ0
  ·rw[if_neg hJ0,h5,if_neg (by decide),if_neg (by simp),if_neg h3,if_neg (fun e=>h4 e.1)]
theorem cl5 (X) : d9 (EX md0 X) (fun _=>none) 1 Tryz.f98 = true := by kernel_rfl
noncomputable def crA : v8 := p8 [(58,aF0),(102,bR6),(103,B1 (RRd 103 spG))]
theorem dh3 : x8 Tryz.prog crA∧Up crA := m9 (m9 (m9 (C1 _) fun args H v H' h=>(u0 h).1) ck7) ax3
theorem aQ0 : crA 58 = aF0 := rfl
theorem cH2 : crA 102 = bR6 := rfl
theorem cH3 : crA 103 = B1 (RRd 103 spG) := rfl
theorem bz5 (c : UInt8) (h : 0≤I1 c.toNat) : F8 c.toNat = .mk 1 (IntKind.i64.wrap (1 * 2 ^ min (I1 c.toNat).toNat 64)) 0 0 [] := by
 have h5 : (c.toNat : Int) = 119 ∨ (c.toNat : Int) = 98 ∨ (c.toNat : Int) = 99 ∨ (c.toNat : Int) = 102 ∨ (c.toNat : Int) = 116:=by
  unfold I1 at h
  repeat' (split at h)
  all_goals omega
 rcases h5 with e | e | e | e | e <;> rw[e] <;> rfl
theorem bS3 (c : UInt8) (h : I1 c.toNat < 0) (h1 : (c.toNat : Int) ≠ 46) (h2 : (c.toNat : Int) ≠ 48) (h3 : (c.toNat : Int) ≠ 95) : ab6 (F8 c.toNat) = 0 := by
 have h5 : ¬ ((c.toNat : Int) = 119 ∨ (c.toNat : Int) = 98 ∨ (c.toNat : Int) = 99 ∨ (c.toNat : Int) = 102 ∨ (c.toNat : Int) = 116):=by
  rintro (e | e | e | e | e) <;> rw[e] at h <;> exact absurd h (by decide)
 unfold F8
 rw[if_neg (by omega),if_neg (by omega),if_neg (by omega),if_neg (by omega),if_neg (by omega),if_neg h1,if_neg h2,if_neg h3]
 rfl
set_option maxHeartbeats 4000000 in
theorem cl6 {s : List UInt8} (hs : s.length≤200) {m : Int} (hG : Can 103 spG s (m+1) 29) : Can 98 spA s m 30 := by
 intro r nx o P d hm hP0 hP1 hd0 hd1 h
 refine aF3 (E:=EX md0 XRd) rfl au9 dh3 mixed (k:=10) Tryz.func98 (cl5 _) rfl h ?_
 have hrow:=h.row
 have hlt0:=h.lt
 have hnext:=L9 s P d 0 (.inl hP0)
 simp only[Tryz.f98,Option.getD_some]
 have hnew : ∀ (o2 : Ob) (nx2 : Nat) (x : AObj),KeepR r nx o o2→KeepR r nx o (upd o2 (nx,2) x):=fun o2 nx2 x k=>m6 k (Nat.le_refl _)
 by_cases hend : (s.length : Int)≤P
 ·rw[M3 (.inl hend)] at hnext
  simp (disch:=omega) only[go_sem,hrow,hnext,aQ0]
  refine A9 (P:=P) (d:=d) (e:=0) (s:=s) ⟨by omega,by simp[b9,hrow]⟩ (fun o2 nx2 k1 k2 k3=>?_)
  have o22 : o2 (nx,2) = some (.row ⟨28,1,(nx,2),false,true,nd0⟩):=by rw[k2 nx 2 (by omega) (by simp)];simp[b9]
  simp (disch:=omega) only[go_sem,o22]
  exact .bad_mk B2 P d 3 (by omega) (hnew _ nx2 _ ((hnew _ nx _ (KeepR.refl _ _ _)).trans (k2.up (nx:=nx) (by omega)) (Nat.le_refl _))) (J2 _ _ _ _ _ _) (J3 _ _ _ _ _ _) (by decide) (fun U J B hB hJ=>bz4 hend hJ) (k3.to (Nat.le_refl _) (by rw[m8 (by simp)];exact k3.row))
 obtain ⟨c,hc,hbt⟩:=L8 (a:=P) hP0 hend
 rw[Y2 hend,hbt] at hnext
 have hmd:=bo9 c
 have hkp0 : KeepR r nx o (upd o (nx,2) (.row ⟨28,1,(nx,2),false,true,nd0⟩)):=hnew _ nx _ (KeepR.refl _ _ _)
 by_cases h40 : (c.toNat : Int) = 40
 ·rw[h40] at hnext hmd hbt
  have hm40 : I1 40 = -1:=by decide
  rw[hm40] at hmd
  by_cases hd30 : 30≤d
  ·simp (disch:=omega) only[go_sem,hrow,hnext,aQ0]
   refine A9 (P:=P) (d:=d) (e:=0) (s:=s) ⟨by omega,by simp[b9,hrow]⟩ (fun o2 nx2 k1 k2 k3=>?_)
   have o22 : o2 (nx,2) = some (.row ⟨28,1,(nx,2),false,true,nd0⟩):=by rw[k2 nx 2 (by omega) (by simp)];simp[b9]
   simp (disch:=omega) only[go_sem,o22]
   exact .bad_mk B2 P d 4 (by omega) (hnew _ nx2 _ (hkp0.trans (k2.up (nx:=nx) (by omega)) (Nat.le_refl _))) (J2 _ _ _ _ _ _) (J3 _ _ _ _ _ _) (by decide) (fun U J B hB hJ=>cH0 hend hbt (by omega)) (k3.to (Nat.le_refl _) (by rw[m8 (by simp)];exact k3.row))
  ·simp (disch:=omega) only[go_sem,hrow,hnext,hmd,hd30,cH3]
   refine ae6 (s:=s) (P:=P+1) (d:=d) (hG _ _ _ (P+1) d (by omega) (by omega) (by omega) hd0 (by omega) ⟨by omega,d8 _ _ _⟩) ⟨by omega,d8 _ _ _⟩ (fun n o2 nx2 k1 k2 k3=>?_)
   have o22 : o2 (nx,2) = some (.row ⟨28,1,(nx,2),false,true,nd0⟩):=by rw[k2 nx 2 (by omega) (by simp)];simp[b9]
   have hkp : KeepR r nx o o2:=(u6 hkp0).trans (k2.up (nx:=nx) (by omega)) (Nat.le_refl _)
   obtain ⟨nk,ns,nlo,nhi,nl⟩:=n
   simp (disch:=omega) only[go_sem,o22]
   rcases k3 with ⟨P',⟨q1,q2,q3⟩,q4⟩ | ⟨P',d',e,q1,q2,q3⟩
   ·exact .ok_mk (.mk nk ns nlo nhi nl) P' (by omega) (hnew _ nx2 _ hkp) (J2 _ _ _ _ _ _) (J3 _ _ _ _ _ _) ⟨by omega,q2,fun U J B hB hJ=>by rw[bq4 hend hbt (by omega)];exact q3 U J B hB⟩ (q4.to (Nat.le_refl _) (by rw[m8 (by simp)];exact q4.row))
   ·exact .bad_mk (.mk nk ns nlo nhi nl) P' d' e (by omega) (hnew _ nx2 _ hkp) (J2 _ _ _ _ _ _) (J3 _ _ _ _ _ _) q1 (fun U J B hB hJ=>by rw[bq4 hend hbt (by omega)];exact q2 U J B hB) (q3.to (Nat.le_refl _) (by rw[m8 (by simp)];exact q3.row))
 by_cases hsg : 0≤I1 c.toNat
 ·have hpl:=bz5 c hsg
  have hlt4:=aw6 c.toNat
  have hconv : IntKind.u64.wrap (I1 c.toNat) = I1 c.toNat:=IntWalk.u64_in _ (by omega)
  simp (disch:=omega) only[go_sem,hrow,hnext,hmd,h40,hsg,hconv]
  exact .ok_mk _ (P+1) (by omega) (hnew _ nx _ (u6 hkp0)) (an9 _ _ _ _ _) (ao0 _ _ _ _ _) ⟨by omega,by omega,fun U J B hB hJ=>ao1 hend (by rw[hbt];exact hpl) (by show (1 : Int) ≠ 0;decide)⟩ (h.to (by omega) (by simp[b9]))
 by_cases h46 : (c.toNat : Int) = 46
 ·rw[h46] at hnext hmd hbt
  have hm46 : I1 46 = -1:=by decide
  rw[hm46] at hmd
  simp (disch:=omega) only[go_sem,hrow,hnext,hmd]
  exact .ok_mk _ (P+1) (by omega) (hnew _ nx _ (u6 hkp0)) (an9 _ _ _ _ _) (ao0 _ _ _ _ _) ⟨by omega,by omega,fun U J B hB hJ=>ao1 hend (by rw[hbt];rfl) (by decide)⟩ (h.to (by omega) (by simp[b9]))
 by_cases h48 : (c.toNat : Int) = 48
 ·rw[h48] at hnext hmd hbt
  have hm48 : I1 48 = -1:=by decide
  rw[hm48] at hmd
  simp (disch:=omega) only[go_sem,hrow,hnext,hmd]
  exact .ok_mk _ (P+1) (by omega) (hnew _ nx _ (u6 hkp0)) (an9 _ _ _ _ _) (ao0 _ _ _ _ _) ⟨by omega,by omega,fun U J B hB hJ=>ao1 hend (by rw[hbt];rfl) (by decide)⟩ (h.to (by omega) (by simp[b9]))
 by_cases h95 : (c.toNat : Int) = 95
 ·rw[h95] at hnext hmd hbt
  have hm95 : I1 95 = -1:=by decide
  rw[hm95] at hmd
  simp (disch:=omega) only[go_sem,hrow,hnext,hmd]
  exact .ok_mk _ (P+1) (by omega) (hnew _ nx _ (u6 hkp0)) (an9 _ _ _ _ _) (ao0 _ _ _ _ _) ⟨by omega,by omega,fun U J B hB hJ=>ao1 hend (by rw[hbt];rfl) (by decide)⟩ (h.to (by omega) (by simp[b9]))
 by_cases h91 : (c.toNat : Int) = 91
 ·rw[h91] at hnext hmd hbt
  have hm91 : I1 91 = -1:=by decide
  rw[hm91] at hmd
  simp (disch:=omega) only[go_sem,hrow,hnext,hmd,cH2]
  refine bR7 (s:=s) (P:=P+1) (d:=d) ⟨by omega,d8 _ _ _⟩ (by omega) (by omega) hs (fun o2 nx2 k1 k2 q hq=>?_)
  have o22 : o2 (nx,2) = some (.row ⟨28,1,(nx,2),false,true,nd0⟩):=by rw[k2 nx 2 (by omega) (by simp)];simp[b9]
  have hkp : KeepR r nx o o2:=(u6 hkp0).trans (k2.up (nx:=nx) (by omega)) (Nat.le_refl _)
  have hci:=aP9 s (s.length - (P+1).toNat) (P+1) 0 (by omega) (by omega)
  have hcf:=Z6 s (s.length - (P+1).toNat) (P+1) 0
  have hpg:=fun U J B=>dh2 (U:=U) (J:=J) (B:=B) hend hbt
  rw[← hq] at hci hcf hpg
  clear hq
  obtain ⟨q1,q2,q3⟩:=q
  refine ⟨fun hq2 hR=>?_,fun hq2 hR=>?_⟩
  ·have hq2 : q2 = true:=hq2
   have h4:=hci.2.2 hq2
   have h5 : q3 < P+1+(s.length - (P+1).toNat : Nat):=h4.2
   have h6 : P+1≤q3:=hcf.1
   simp (disch:=omega) only[go_sem,o22]
   exact .ok_mk (.mk 1 q1 0 0 []) (q3+1) (by omega) (hnew _ nx2 _ hkp) (J2 _ _ _ _ _ _) (J3 _ _ _ _ _ _) ⟨by omega,by omega,fun U J B hB hJ=>by rw[hpg,if_neg (by rw[hq2];simp)]⟩ (hR.to (Nat.le_refl _) (by rw[m8 (by simp)];exact hR.row))
  ·have hq2 : q2 = false:=hq2
   simp (disch:=omega) only[go_sem,o22]
   exact .bad_mk B2 q3 d 3 (by omega) (hnew _ nx2 _ hkp) (J2 _ _ _ _ _ _) (J3 _ _ _ _ _ _) (by decide) (fun U J B hB hJ=>by rw[hpg,if_pos hq2]) (hR.to (Nat.le_refl _) (by rw[m8 (by simp)];exact hR.row))
 have hpl : ab6 (F8 c.toNat) = 0:=bS3 c (by omega) h46 h48 h95
 simp (disch:=omega) only[go_sem,hrow,hnext,hmd,h40,hsg,h46,h48,h95,h91,aQ0]
 have eP : P+1 - 1 = P:=by omega
 refine A9 (P:=P) (d:=d) (e:=0) (s:=s) ⟨by omega,by simp[b9,eP]⟩ (fun o2 nx2 k1 k2 k3=>?_)
 have o22 : o2 (nx,2) = some (.row ⟨28,1,(nx,2),false,true,nd0⟩):=by rw[k2 nx 2 (by omega) (by simp)];simp[b9]
 simp (disch:=omega) only[go_sem,o22]
 exact .bad_mk B2 P d 3 (by omega) (hnew _ nx2 _ ((u6 (u6 hkp0)).trans (k2.up (nx:=nx) (by omega)) (Nat.le_refl _))) (J2 _ _ _ _ _ _) (J3 _ _ _ _ _ _) (by decide) (fun U J B hB hJ=>cH1 hend (by rw[hbt];exact hpl) (by rw[hbt];exact h91) (by rw[hbt];exact h40) hJ) (k3.to (Nat.le_refl _) (by rw[m8 (by simp)];exact k3.row))
set_option maxRecDepth 20000
theorem bS4 (X) : d9 (EX md0 X) (fun _=>none) 1 Tryz.f92 = true := by kernel_rfl
noncomputable def dr7 : v8 := p8 [(98,B1 (RRd 98 spA)),(99,bR8)]
theorem cH4 : x8 Tryz.prog dr7∧Up dr7 := m9 (m9 (C1 _) ck9) fun args H v H' h=>(u0 h).1
theorem bS5 : dr7 98 = B1 (RRd 98 spA) := rfl
theorem bz6 : dr7 99 = bR8 := rfl
theorem aQ1 {s : List UInt8} {P : Int} {U J n} {B : Lvs} {c k : Int} (h : ¬ (s.length : Int)≤P) (hb : z7 s P = c) (hc : (c = 42∧k = 6) ∨ (c = 43∧k = 7) ∨ (c = 63∧k = 8)) : pG s P U (J++[n]) B = pG s (P+1) U (J++[.mk k 0 0 0 [n]]) B := by
 rw[X9,if_neg h,hb]
 rcases hc with ⟨rfl,rfl⟩ | ⟨rfl,rfl⟩ | ⟨rfl,rfl⟩ <;>
 rw[if_neg (by decide),if_neg (by decide),if_neg (by decide),if_neg (by simp),if_neg (by decide),if_pos (by decide),Z7] <;> rfl
theorem bS6 {s : List UInt8} {P : Int} {U J n} {B : Lvs} (h : ¬ (s.length : Int)≤P) (hb : z7 s P = 123) : pG s P U (J++[n]) B = if 0≤(y9 s P).2.2 then (B2,(y9 s P).2.2,3) else pG s (P+5) U (J++[.mk 9 0 (y9 s P).1 (y9 s P).2.1 [n]]) B := by
 rw[X9,if_neg h,hb,if_neg (by decide),if_neg (by decide),if_neg (by decide),if_neg (by simp),if_pos (by decide)]
 simp only[Z7]
def dT4 (s : List UInt8) (P d x d' e : Int) (D : Nat) (n : Nd) : Prop :=
 (e = 0∧d' = d∧P < x∧x≤s.length∧(D : Int)≤x - P∧∀ U J (B : Lvs),(B.length : Int) = d→bX0 s P J→pG s P U J B = pG s x U (J++[n]) B) ∨
 (e ≠ 0∧D≤300∧∀ U J (B : Lvs),(B.length : Int) = d→bX0 s P J→pG s P U J B = (B2,x,e))
theorem RdPost.w_mk {r : Nat} {s : List UInt8} {d : Int} {ok : Nd→Int→Prop} {bad : Int→Int→Prop} {o : Ob} {nx D : Nat} {cs : List AV} {n : Nd} {o' : Ob} {nx' : Nat} (hw : WNd o' nx nx' D cs n) (hD : D≤1000) (hn : nx≤nx') (hk : KeepR r nx o o') (hR : (∃ P',ok n P'∧Rdr o' nx' r s P' d 0) ∨ (∃ P' d' e,e ≠ 0∧bad P' e∧Rdr o' nx' r s P' d' e)) : RdPost r s d ok bad o nx (.agg cs) o' nx' :=
 ⟨hn,hk,fun q hq=>(hw.tags 1011 q hq).1,n,by show AV.agg (cs.map (A.view o' 1011)) = _;rw[hw.view 1011 (by omega)],hR⟩
set_option maxHeartbeats 4000000 in
theorem bS7 {s : List UInt8} (hs : s.length≤200) {m : Int} (hA : Can 98 spA s m 30) : Can 92 spP s m 30 := by
 intro r nx o P d hm hP0 hP1 hd0 hd1 h
 refine aF3 (E:=EX md0 XRd) rfl au9 cH4 mixed (k:=1000) Tryz.func92 (bS4 _) rfl h ?_
 have hrow:=h.row
 have hlt0:=h.lt
 simp only[Tryz.f92,Option.getD_some]
 simp (disch:=omega) only[go_sem,hrow,bS5]
 refine ae6 (s:=s) (P:=P) (d:=d) (hA _ _ _ P d hm hP0 hP1 hd0 hd1 ⟨by omega,by simp[b9,hrow]⟩) ⟨by omega,by simp[b9,hrow]⟩ (fun n o1 nx1 k1 k2 k3=>?_)
 have o12 : o1 (nx,2) = some (.row ⟨28,1,(nx,2),false,true,nd0⟩):=by rw[k2 nx 2 (by omega) (by simp)];simp[b9]
 simp (disch:=omega) only[go_sem,o12]
 have k4 : ∃ x d' e,Rdr o1 nx1 r s x d' e∧dT4 s P d x d' e 0 n∧(0≤x ∨ e ≠ 0):=by
  rcases k3 with ⟨P',⟨q1,q2,q3⟩,q4⟩ | ⟨P',d',e,q1,q2,q3⟩
  ·exact ⟨P',d,0,q4,.inl ⟨rfl,rfl,q1,q2,by omega,q3⟩,by omega⟩
  ·exact ⟨P',d',e,q3,.inr ⟨q1,by omega,q2⟩,.inr q1⟩
 clear k3
 obtain ⟨x,d',e,k5,k6,k7⟩:=k4
 refine o9 (fun m a o2 nx2=>∃ (x d' e : Int) (D : Nat) (n : Nd) (cs : List AV),m = (if e = 0 then s.length - x.toNat+1 else 0)∧nx+2≤nx2∧a 0 = rdP r∧a 2 = .ptr (nx,2) (nx,2) 0∧a 3 = .ptr (nx+1,3) (nx+1,3) 0∧Rdr o2 nx2 r s x d' e∧KeepR r nx o o2∧o2 (nx,2) = some (.row ⟨28,1,(nx,2),false,true,nd0⟩)∧o2 (nx+1,3) = some (.row ⟨28,1,(nx+1,3),false,true,cs⟩)∧WNd o2 nx nx2 D cs n∧dT4 s P d x d' e D n∧(0≤x ∨ e ≠ 0)) (if e = 0 then s.length - x.toNat+1 else 0) (by split <;> omega) ?_ ?_
 ·exact ⟨x,d',e,0,n,cNd n,rfl,by omega,by simp (disch:=omega) only[go_sem],by simp (disch:=omega) only[go_sem],by simp (disch:=omega) only[go_sem],k5.to (by omega) (by simp[b9,k5.row]),m6 (m6 ((m6 (KeepR.refl _ _ _) (Nat.le_refl _)).trans (k2.up (nx:=nx) (by omega)) (Nat.le_refl _)) (by omega)) (by omega),by simp[b9,o12],by simp[b9],.data 0 n,k6,k7⟩
 clear k1 k2 k5 k6 k7 o12 hrow
 rintro m a o2 nx2 ⟨x,d',e,D,n,cs,rfl,hnx,a0,a2,a3,hS,hkp,o22,o23,hW,hPc,hx0⟩
 have h2:=hS.row
 have hrlt:=hS.lt
 have hnext:=L9 s x d' e hx0
 have hc5:=hW.length
 have hcok:=hW.ok
 have hctk : cs.take 5 = cs:=j7 hc5
 have hdr5 : cs.drop 5 = []:=List.drop_of_length_le (by omega)
 have hWk : ∀ (o3 : Ob) (nx3 : Nat),nx2≤nx3→(∀ i j,i < nx2→(i,j) ≠ (nx,2)→(i,j) ≠ (nx+1,3)→(i,j) ≠ (r,13)→o3 (i,j) = o2 (i,j))→WNd o3 nx nx3 D cs n:=fun o3 nx3 g1 g2=>hW.keep g1 (fun i j q1 q2 q3=>g2 i j q2 (by intro e;cases e;omega) (by intro e;cases e;omega) (by intro e;cases e;omega))
 have hstop : ∀ (o3 : Ob) (nx3 : Nat),nx2≤nx3→o3 = upd o2 (nx,2) (.row ⟨28,1,(nx,2),false,true,cs⟩)→((s.length : Int)≤x ∨ e ≠ 0 ∨ G5 (z7 s x) = 0)→RdPost r s d (spP.ok s P d) (spP.bad s P d) o nx (.agg cs) o3 nx3:=fun o3 nx3 g1 g2 g3=>by
  have hD : D≤1000:=by rcases hPc with ⟨_,_,_,_,g,_⟩ | ⟨_,g,_⟩ <;> omega
  refine .w_mk (hWk o3 nx3 g1 (fun i j q1 q2 q3 q4=>by rw[g2,m8 q2])) hD (by omega) (by rw[g2];exact m6 hkp (Nat.le_refl _)) ?_
  have hR : Rdr o3 nx3 r s x d' e:=hS.to g1 (by rw[g2,m8 (by simp)];exact h2)
  rcases hPc with ⟨rfl,rfl,p1,p2,p3,p4⟩ | ⟨p1,p2,p3⟩
  ·exact .inl ⟨x,⟨p1,p2,by rcases g3 with g3 | g3 | g3 <;> simp_all,p4⟩,hR⟩
  ·exact .inr ⟨x,d',e,p1,p3,hR⟩
 by_cases hst : (s.length : Int)≤x ∨ e ≠ 0
 ·rw[M3 hst] at hnext
  simp (disch:=omega) only[go_sem,a0,a2,a3,h2,hnext,o22,o23,hc5,hctk,hcok,hdr5]
  exact hstop _ _ (by omega) rfl (by rcases hst with g | g;exact .inl g;exact .inr (.inl g))
 have he : e = 0:=Classical.not_not.1 (fun g=>hst (.inr g))
 have hend : ¬ (s.length : Int)≤x:=fun g=>hst (.inl g)
 subst he
 obtain ⟨_,rfl,p1,p2,p3,p4⟩ : 0 = (0 : Int)∧d' = d∧P < x∧x≤s.length∧(D : Int)≤x - P∧∀ U J (B : Lvs),(B.length : Int) = d→bX0 s P J→pG s P U J B = pG s x U (J++[n]) B:=by
  rcases hPc with g | g
  ·exact g
  ·exact absurd rfl g.1
 obtain ⟨c,hc,hbt⟩:=L8 (a:=x) (by omega) hend
 rw[Y2 hend,hbt] at hnext
 rw[if_pos rfl]
 by_cases h42 : (c.toNat : Int) = 42
 ·rw[h42] at hnext hbt
  simp (disch:=omega) only[go_sem,a0,a2,a3,h2,hnext,o22,o23,hc5,hctk,hcok,hdr5]
  refine ⟨_,?_,x+1,d',0,D+1,.mk 6 0 0 0 [n],_,rfl,by omega,hS.to (by omega) (d8 _ _ _),u6 (m6 (m6 hkp (by omega)) (by omega)),rfl,.beh D _ 21 _ _ 6 n cs (by omega) (by omega) (.inl rfl) (by rw[m8 (by simp),m8 (by simp),d8]) (hWk _ _ (by omega) (fun i j q1 q2 q3 q4=>by rw[m8 q4,m8 q3,m8 (by intro e;cases e;omega)])),.inl ⟨rfl,rfl,by omega,by omega,by omega,fun U J B hB hJ=>by rw[p4 U J B hB hJ,aQ1 hend hbt (.inl ⟨rfl,rfl⟩)]⟩,by omega⟩
  rw[if_pos rfl];omega
 by_cases h43 : (c.toNat : Int) = 43
 ·rw[h43] at hnext hbt
  simp (disch:=omega) only[go_sem,a0,a2,a3,h2,hnext,o22,o23,hc5,hctk,hcok,hdr5]
  refine ⟨_,?_,x+1,d',0,D+1,.mk 7 0 0 0 [n],_,rfl,by omega,hS.to (by omega) (d8 _ _ _),u6 (m6 (m6 hkp (by omega)) (by omega)),rfl,.beh D _ 26 _ _ 7 n cs (by omega) (by omega) (.inr (.inl rfl)) (by rw[m8 (by simp),m8 (by simp),d8]) (hWk _ _ (by omega) (fun i j q1 q2 q3 q4=>by rw[m8 q4,m8 q3,m8 (by intro e;cases e;omega)])),.inl ⟨rfl,rfl,by omega,by omega,by omega,fun U J B hB hJ=>by rw[p4 U J B hB hJ,aQ1 hend hbt (.inr (.inl ⟨rfl,rfl⟩))]⟩,by omega⟩
  rw[if_pos rfl];omega
 by_cases h63 : (c.toNat : Int) = 63
 ·rw[h63] at hnext hbt
  simp (disch:=omega) only[go_sem,a0,a2,a3,h2,hnext,o22,o23,hc5,hctk,hcok,hdr5]
  refine ⟨_,?_,x+1,d',0,D+1,.mk 8 0 0 0 [n],_,rfl,by omega,hS.to (by omega) (d8 _ _ _),u6 (m6 (m6 hkp (by omega)) (by omega)),rfl,.beh D _ 31 _ _ 8 n cs (by omega) (by omega) (.inr (.inr rfl)) (by rw[m8 (by simp),m8 (by simp),d8]) (hWk _ _ (by omega) (fun i j q1 q2 q3 q4=>by rw[m8 q4,m8 q3,m8 (by intro e;cases e;omega)])),.inl ⟨rfl,rfl,by omega,by omega,by omega,fun U J B hB hJ=>by rw[p4 U J B hB hJ,aQ1 hend hbt (.inr (.inr ⟨rfl,rfl⟩))]⟩,by omega⟩
  rw[if_pos rfl];omega
 by_cases h123 : (c.toNat : Int) = 123
 ·rw[h123] at hnext hbt
  simp (disch:=omega) only[go_sem,a0,a2,a3,h2,hnext,o22,o23,hc5,hctk,hcok,hdr5,bz6]
  refine bR9 (s:=s) (at_:=x) (d:=d') (b:=nx) (D:=D) (n:=n) ⟨by omega,d8 _ _ _⟩ (by omega) (by omega) hs (hWk _ _ (by omega) (fun i j q1 q2 q3 q4=>m8 q4)) (by omega) (by omega) (fun o3 nx3 g1 g2 T hT=>?_)
  have o32 : o3 (nx,2) = some (.row ⟨28,1,(nx,2),false,true,nd0⟩):=by rw[g2 nx 2 (by omega) (by simp) (by omega),m8 (by simp)];exact o22
  have o33 : o3 (nx+1,3) = some (.row ⟨28,1,(nx+1,3),false,true,cs⟩):=by rw[g2 (nx+1) 3 (by omega) (by simp) (by omega),m8 (by simp)];exact o23
  have hk3 : KeepR r nx o o3:=fun i k q1 q2=>by rw[g2 i k (by omega) q2 (by omega),m8 q2];exact hkp i k q1 q2
  have htm:=fun U J B=>bS6 (U:=U) (J:=J) (n:=n) (B:=B) hend hbt
  have hti:=bq2 s x (by omega)
  rw[← hT] at htm hti
  clear hT g2
  obtain ⟨T1,T2,T3⟩:=T
  refine ⟨fun hT0 hR=>?_,fun hT0 hR=>?_⟩
  ·have hT0 : 0≤T3:=hT0
   simp (disch:=omega) only[go_sem,a0,a2,a3,o32,o33,hc5,hdr5]
   refine ⟨_,?_,T3,d',3,0,B2,cNd B2,rfl,by omega,hR.to (Nat.le_refl _) (by rw[m8 (by simp)];exact hR.row),m6 hk3 (by omega),by rw[n7],.data 0 B2,.inr ⟨by decide,by omega,fun U J B hB hJ=>by rw[p4 U J B hB hJ,htm,if_pos hT0]⟩,.inl hT0⟩
   rw[if_neg (by decide)];omega
  ·have hT0 : ¬ 0≤T3:=hT0
   have h5:=hti hT0
   simp (disch:=omega) only[go_sem,a0,a2,a3,o32,o33,hc5,hdr5]
   refine ⟨_,?_,x+5,d',0,0,.mk 9 0 T1 T2 [n],cNd (.mk 9 0 T1 T2 [n]),rfl,by omega,hR.to (Nat.le_refl _) (by rw[m8 (by simp)];exact hR.row),m6 hk3 (by omega),by rw[n7],.data 0 _,.inl ⟨rfl,rfl,by omega,h5.2.2.2,by omega,fun U J B hB hJ=>by rw[p4 U J B hB hJ,htm,if_neg hT0]⟩,by omega⟩
   rw[if_pos rfl];omega
 have haf : G5 (z7 s x) = 0:=by
  rw[hbt]
  unfold G5
  rw[if_neg h42,if_neg h43,if_neg h63,if_neg h123]
 simp (disch:=omega) only[go_sem,a0,a2,a3,h2,hnext,o22,o23,hc5,hctk,hcok,hdr5,h42,h43,h63,h123]
 exact hstop _ _ (by omega) rfl (.inr (.inr haf))
set_option maxRecDepth 20000
theorem aQ2 {o : Ob} {i j : Nat} {g : Tag} {ro : Bool} {k : Int} {l : List Nd} (h : o (i,j) = some (.row ⟨28,5,g,ro,true,G0 l⟩)) : A.view o p9 (.agg [.int .i64 k,.int .i64 0,.int .i64 0,.int .i64 0,.ref (i,j) g 0 l.length]) = j5 (.mk k 0 0 0 l) := by
 have hl:=y0 l
 have htk : (G0 l).take (l.length * 5) = G0 l:=j7 hl
 rw[j5,n7,slN]
 simp (disch:=omega) only[go_sem,h,hl,htk]
theorem aQ3 {o : Ob} {i j : Nat} {g : Tag} {ro : Bool} {k : Int} {l : List Nd} (h : o (i,j) = some (.row ⟨28,5,g,ro,true,G0 l⟩)) : d5 o p9 (.agg [.int .i64 k,.int .i64 0,.int .i64 0,.int .i64 0,.ref (i,j) g 0 l.length]) = [(i,j)] := by
 have hl:=y0 l
 have htk : (G0 l).take (l.length * 5) = G0 l:=j7 hl
 simp (disch:=omega) only[go_sem,h,hl,htk]
theorem RdPost.ref_mk {r : Nat} {s : List UInt8} {d : Int} {ok : Nd→Int→Prop} {bad : Int→Int→Prop} {o : Ob} {nx : Nat} {k : Int} {i j : Nat} {g : Tag} {ro : Bool} {l : List Nd} {o' : Ob} {nx' : Nat} (h : o' (i,j) = some (.row ⟨28,5,g,ro,true,G0 l⟩)) (hi : nx≤i) (hn : nx≤nx') (hk : KeepR r nx o o') (hR : (∃ P',ok (.mk k 0 0 0 l) P'∧Rdr o' nx' r s P' d 0) ∨ (∃ P' d' e,e ≠ 0∧bad P' e∧Rdr o' nx' r s P' d' e)) :
  RdPost r s d ok bad o nx (.agg [.int .i64 k,.int .i64 0,.int .i64 0,.int .i64 0,.ref (i,j) g 0 l.length]) o' nx' :=
 ⟨hn,hk,fun q hq=>(by rw[aQ3 h,List.mem_singleton] at hq;rw[hq];exact hi),_,aQ2 h,hR⟩
theorem cl7 (X) : d9 (EX md0 X) (fun _=>none) 1 Tryz.f82 = true := by kernel_rfl
noncomputable def crJ : v8 := p8 [(92,B1 (RRd 92 spP))]
theorem dh4 : x8 Tryz.prog crJ∧Up crJ := m9 (C1 _) fun args H v H' h=>(u0 h).1
theorem aZ9 : crJ 92 = B1 (RRd 92 spP) := rfl
def dE2 (s : List UInt8) (P d x d' e : Int) (l : List Nd) : Prop :=
 (e = 0∧d' = d∧P < x∧x≤s.length∧(l.length : Int)≤x - P∧((s.length : Int)≤x ∨ G5 (z7 s x) = 0)∧∀ U (B : Lvs),(B.length : Int) = d→pG s P U [] B = pG s x U l B) ∨
 (e ≠ 0∧l.length≤300∧∀ U (B : Lvs),(B.length : Int) = d→pG s P U [] B = (B2,x,e))
theorem bS8 {k : Int} {l : List Nd} (h : 1 < l.length) : A6 k l = .mk k 0 0 0 l := by
 match l,h with
 | x :: y :: l,_=>rfl
noncomputable def bJ : Code := Tryz.f82.body.getD .skip
noncomputable def tJ : Code := u9 [1,1,1] bJ
theorem dh5 : bJ = .seq (u9 [0] bJ) (.seq (u9 [1,0] bJ) (.seq (u9 [1,1,0] bJ) tJ)) := by kernel_rfl
abbrev dE3 (r : Nat) (s : List UInt8) (P d : Int) (o : Ob) (nx : Nat) : s8 := fun u a o' nx'=>(u = .normal ∨ u = .ret)∧wO (s7 Tryz.prog a ⟨o',nx'⟩ Tryz.f82.results.toList) (fun vs=>RdPost r s d (spJ.ok s P d) (spJ.bad s P d) o nx (ac3 vs) o' nx')
theorem bS9 {s : List UInt8} {r nx p : Nat} {P d : Int} {o o3 : Ob} {nx3 : Nat} {g : Tag} {l : List Nd} {a : v6} (hn : nx+1≤nx3) (hne : l ≠ []) (hll : l.length≤300) (hp1 : nx≤p) (hkp : KeepR r nx o o3) (a2 : a 2 = .ptr (nx,2) (nx,2) 0) (a3 : a 3 = .ref (p,8) g 0 l.length)
  (o22 : o3 (nx,2) = some (.row ⟨28,1,(nx,2),false,true,nd0⟩)) (o28 : o3 (p,8) = some (.row ⟨28,5,g,false,true,G0 l⟩))
  (hR : ∀ (o4 : Ob) (nx4 : Nat),nx3≤nx4→o4 (r,13) = o3 (r,13)→(∃ P',spJ.ok s P d (A6 4 l) P'∧Rdr o4 nx4 r s P' d 0) ∨ (∃ P' d' e,e ≠ 0∧spJ.bad s P d P' e∧Rdr o4 nx4 r s P' d' e)) :
  WP (EX md0 XRd) crJ 1000 (fun _=>none) tJ a o3 nx3 (dE3 r s P d o nx):=by
 have htk : (G0 l).take (l.length * 5) = G0 l:=j7 (y0 l)
 have hcl:=y0 l
 have hlp : l.length ≠ 0:=fun h'=>hne (List.length_eq_zero_iff.1 h')
 simp only[tJ,bJ,Tryz.f82,Option.getD_some,u9]
 by_cases h1 : l.length = 1
 ·obtain ⟨y,rfl⟩ : ∃ y,l = [y]:=List.length_eq_one_iff.1 h1
  have hy : G0 [y] = cNd y++[]:=by rw[A5,List.append_nil]
  rw[hy] at o28
  simp (disch:=omega) only[go_sem,a2,a3,o22,o28]
  exact ⟨.inr rfl,by
   simp only[Tryz.f82]
   simp (disch:=omega) only[go_sem,a2]
   exact ⟨by omega,m6 hkp (Nat.le_refl _),fun q hq=>(by rw[ae8] at hq;cases hq),y,ae7 _ _,hR _ _ (by omega) (m8 (by simp))⟩⟩
 ·have h1' : ¬ (l.length : Int) = 1:=by omega
  rw[bS8 (by omega)] at hR
  simp (disch:=omega) only[go_sem,a2,a3,o22,o28,h1']
  exact ⟨.inr rfl,by
   simp only[Tryz.f82]
   simp (disch:=omega) only[go_sem,a2]
   exact .ref_mk (ro:=false) (by rw[m8 (by simp)];exact o28) hp1 (by omega) (m6 hkp (Nat.le_refl _)) (hR _ _ (by omega) (m8 (by simp)))⟩
set_option maxHeartbeats 4000000 in
theorem cl8 {s : List UInt8} (hs : s.length≤200) {m : Int} (hA : Can 92 spP s m 30) : Can 82 spJ s m 30 := by
 intro r nx o P d hm hP0 hP1 hd0 hd1 h
 refine aF3 (E:=EX md0 XRd) rfl au9 dh4 mixed (k:=1000) Tryz.func82 (cl7 _) rfl h ?_
 have hrow:=h.row
 have hlt0:=h.lt
 show WP (EX md0 XRd) crJ 1000 (fun _=>none) bJ _ o nx (dE3 r s P d o nx)
 rw[dh5]
 generalize hc : tJ = c
 simp only[bJ,Tryz.f82,Option.getD_some,u9]
 simp (disch:=omega) only[go_sem,hrow,aZ9]
 refine ae6 (s:=s) (P:=P) (d:=d) (hA _ _ _ P d hm hP0 hP1 hd0 hd1 ⟨by omega,by simp[b9,hrow]⟩) ⟨by omega,by simp[b9,hrow]⟩ (fun n o1 nx1 k1 k2 k3=>?_)
 have o12 : o1 (nx,2) = some (.row ⟨28,1,(nx,2),false,true,nd0⟩):=by rw[k2 nx 2 (by omega) (by simp)];simp[b9]
 simp (disch:=omega) only[go_sem,o12]
 have k4 : ∃ x d' e,Rdr o1 nx1 r s x d' e∧dE2 s P d x d' e [n]∧(0≤x ∨ e ≠ 0):=by
  rcases k3 with ⟨P',⟨q1,q2,q3,q5⟩,q4⟩ | ⟨P',d',e,q1,q2,q3⟩
  ·exact ⟨P',d,0,q4,.inl ⟨rfl,rfl,q1,q2,by show (1 : Int)≤_;omega,q3,fun U B hB=>by rw[q5 U [] B hB (.inl rfl)];rfl⟩,by omega⟩
  ·exact ⟨P',d',e,q3,.inr ⟨q1,by simp,fun U B hB=>q2 U [] B hB (.inl rfl)⟩,.inr q1⟩
 clear k3
 obtain ⟨x,d',e,k5,k6,k7⟩:=k4
 have e1 : G0 [n] = cNd n:=A5 n
 refine o9 (fun m a o2 nx2=>∃ (x d' e : Int) (l : List Nd) (p : Nat) (g : Tag),m = (if e = 0 then s.length - x.toNat+1 else 0)∧nx+1≤nx2∧nx≤p∧p < nx2∧l ≠ []∧a 0 = rdP r∧a 2 = .ptr (nx,2) (nx,2) 0∧a 3 = .ref (p,8) g 0 l.length∧Rdr o2 nx2 r s x d' e∧KeepR r nx o o2∧o2 (nx,2) = some (.row ⟨28,1,(nx,2),false,true,nd0⟩)∧o2 (p,8) = some (.row ⟨28,5,g,false,true,G0 l⟩)∧dE2 s P d x d' e l∧(0≤x ∨ e ≠ 0)) (if e = 0 then s.length - x.toNat+1 else 0) (by split <;> omega) ?_ ?_
 ·refine ⟨x,d',e,[n],_,_,rfl,by omega,?_,?_,by simp,by simp (disch:=omega) only[go_sem],by simp (disch:=omega) only[go_sem],by simp (disch:=omega) only[go_sem];rfl,k5.to (by omega) (by simp[b9,k5.row]),m6 ((m6 (KeepR.refl _ _ _) (Nat.le_refl _)).trans (k2.up (nx:=nx) (by omega)) (Nat.le_refl _)) (by omega),by simp[b9,o12],by simp[b9,e1],k6,k7⟩
  ·omega
  ·omega
 clear k1 k2 k5 k6 k7 o12 hrow e1
 rintro m a o2 nx2 ⟨x,d',e,l,p,g,rfl,hnx,hp1,hp2,hne,a0,a2,a3,hS,hkp,o22,o28,hJn,hx0⟩
 have h2:=hS.row
 have hrlt:=hS.lt
 have hnext:=L9 s x d' e hx0
 have hll : l.length≤300:=by rcases hJn with ⟨_,_,_,_,g',_⟩ | ⟨_,g',_⟩ <;> omega
 have htk : (G0 l).take (l.length * 5) = G0 l:=j7 (y0 l)
 have hcl:=y0 l
 have hstop : ((s.length : Int)≤x ∨ e ≠ 0 ∨ z7 s x = 124 ∨ z7 s x = 41)→∀ (a' : v6) (nx3 : Nat),nx2≤nx3→a' 2 = .ptr (nx,2) (nx,2) 0→a' 3 = .ref (p,8) g 0 l.length →
   WP (EX md0 XRd) crJ 1000 (fun _=>none) c a' o2 nx3 (dE3 r s P d o nx):=by
  intro g3 a' nx3 g1 a2 a3
  rw[← hc]
  refine bS9 (by omega) hne hll hp1 hkp a2 a3 o22 o28 (fun o4 nx4 q1 q2=>?_)
  have hR : Rdr o4 nx4 r s x d' e:=hS.to (by omega) (by rw[q2];exact h2)
  rcases hJn with ⟨rfl,rfl,p1,p2,p3,p4,p5⟩ | ⟨p1,p2,p3⟩
  ·exact .inl ⟨x,⟨p1,p2,by rcases g3 with g3 | g3 | g3 | g3 <;> simp_all,fun U B hB=>⟨l,hne,rfl,p5 U B hB⟩⟩,hR⟩
  ·exact .inr ⟨x,d',e,p1,p3,hR⟩
 by_cases hst : (s.length : Int)≤x ∨ e ≠ 0
 ·rw[M3 hst] at hnext
  simp (disch:=omega) only[go_sem,a0,a2,a3,h2,hnext]
  exact hstop (by rcases hst with g' | g';exact .inl g';exact .inr (.inl g')) _ _ (by omega) (by simp (disch:=omega) only[go_sem,a2]) (by simp (disch:=omega) only[go_sem,a3])
 have he : e = 0:=Classical.not_not.1 (fun g=>hst (.inr g))
 have hend : ¬ (s.length : Int)≤x:=fun g=>hst (.inl g)
 subst he
 obtain ⟨_,rfl,p1,p2,p3,p4,p5⟩ : 0 = (0 : Int)∧d' = d∧P < x∧x≤s.length∧(l.length : Int)≤x - P∧((s.length : Int)≤x ∨ G5 (z7 s x) = 0)∧∀ U (B : Lvs),(B.length : Int) = d→pG s P U [] B = pG s x U l B:=by
  rcases hJn with g | g
  ·exact g
  ·exact absurd rfl g.1
 have p4:=p4.resolve_left hend
 obtain ⟨ch,hch,hbt⟩:=L8 (a:=x) (by omega) hend
 rw[Y2 hend,hbt] at hnext
 rw[if_pos rfl]
 by_cases h124 : (ch.toNat : Int) = 124
 ·rw[h124] at hnext hbt
  simp (disch:=omega) only[go_sem,a0,a2,a3,h2,hnext]
  exact hstop (.inr (.inr (.inl hbt))) _ _ (by omega) (by simp (disch:=omega) only[go_sem,a2]) (by simp (disch:=omega) only[go_sem,a3])
 by_cases h41 : (ch.toNat : Int) = 41
 ·rw[h41] at hnext hbt
  simp (disch:=omega) only[go_sem,a0,a2,a3,h2,hnext]
  exact hstop (.inr (.inr (.inr hbt))) _ _ (by omega) (by simp (disch:=omega) only[go_sem,a2]) (by simp (disch:=omega) only[go_sem,a3])
 clear hstop
 simp (disch:=omega) only[go_sem,a0,a2,a3,h2,hnext,h124,h41,aZ9]
 refine ae6 (s:=s) (P:=x) (d:=d') (hA _ _ _ x d' (by omega) (by omega) p2 hd0 hd1 ⟨by omega,h2⟩) ⟨by omega,h2⟩ (fun n o3 nx3 k1 k2 k3=>?_)
 have o32 : o3 (nx,2) = some (.row ⟨28,1,(nx,2),false,true,nd0⟩):=(k2 nx 2 (by omega) (by simp)).trans o22
 have o38 : o3 (p,8) = some (.row ⟨28,5,g,false,true,G0 l⟩):=(k2 p 8 (by omega) (by simp)).trans o28
 have hk3 : KeepR r nx o o3:=hkp.trans (k2.up (nx:=nx) (by omega)) (Nat.le_refl _)
 have hsn : G0 (l++[n]) = G0 l++cNd n:=by rw[W1,A5]
 have k4 : ∃ x' d'' e,Rdr o3 nx3 r s x' d'' e∧dE2 s P d' x' d'' e (l++[n])∧(0≤x' ∨ e ≠ 0)∧(if e = 0 then s.length - x'.toNat+1 else 0) < s.length - x.toNat+1:=by
  have hpre : bX0 s x l:=.inr ⟨hend,by rw[hbt];exact h124,by rw[hbt];exact h41,p4⟩
  rcases k3 with ⟨P',⟨q1,q2,q3,q5⟩,q4⟩ | ⟨P',d',e,q1,q2,q3⟩
  ·exact ⟨P',d',0,q4,.inl ⟨rfl,rfl,by omega,q2,by rw[List.length_append];show ((l.length+1 : Nat) : Int)≤_;omega,q3,fun U B hB=>by rw[p5 U B hB,q5 U l B hB hpre]⟩,by omega,by rw[if_pos rfl];omega⟩
  ·exact ⟨P',d',e,q3,.inr ⟨q1,by rw[List.length_append];show l.length+1≤300;omega,fun U B hB=>by rw[p5 U B hB,q2 U l B hB hpre]⟩,.inr q1,by rw[if_neg q1];omega⟩
 clear k3
 obtain ⟨x',d'',e,k5,k6,k7,k8⟩:=k4
 simp (disch:=omega) only[go_sem,a0,a2,a3,o32,o38,htk,hcl]
 exact ⟨_,k8,x',d'',e,l++[n],p,_,rfl,by omega,hp1,by omega,by simp,by rw[List.length_append];rfl,k5.to (Nat.le_refl _) (by rw[m8 (by simp),m8 (by simp)];exact k5.row),m6 (m6 hk3 (by omega)) hp1,by rw[if_pos rfl,hsn],k6,k7⟩
theorem bT0 (X) : d9 (EX md0 X) (fun _=>none) 1 Tryz.f57 = true := by kernel_rfl
noncomputable def crU : v8 := p8 [(82,B1 (RRd 82 spJ))]
theorem dh6 : x8 Tryz.prog crU∧Up crU := m9 (C1 _) fun args H v H' h=>(u0 h).1
theorem bq5 : crU 82 = B1 (RRd 82 spJ) := rfl
def dE4 (s : List UInt8) (P d x d' e : Int) (l : List Nd) : Prop :=
 (e = 0∧d' = d∧P < x∧x≤s.length∧(l.length : Int)≤x - P∧((s.length : Int)≤x ∨ z7 s x = 124 ∨ z7 s x = 41)∧∀ (B : Lvs),(B.length : Int) = d→∃ U J,J ≠ []∧U++[A6 4 J] = l∧pG s P [] [] B = pG s x U J B) ∨
 (e ≠ 0∧l.length≤300∧∀ (B : Lvs),(B.length : Int) = d→pG s P [] [] B = (B2,x,e))
theorem bT1 {s : List UInt8} {P : Int} {U J} {B : Lvs} (h : ¬ (s.length : Int)≤P) (hb : z7 s P = 124) (hJ : J ≠ []) : pG s P U J B = pG s (P+1) (U++[A6 4 J]) [] B := by
 rw[X9,if_neg h,hb,if_neg (by decide),if_neg (by decide),if_neg (by decide),if_neg hJ,if_neg (by decide),if_neg (by decide),if_pos rfl]
theorem bT2 {s : List UInt8} {P : Int} {U J U0 J0} {B : Lvs} (h : ¬ (s.length : Int)≤P) (hb : z7 s P = 41) (hJ : J ≠ []) : pG s P U J ((U0,J0) :: B) = pG s (P+1) U0 (J0++[A6 5 (U++[A6 4 J])]) B := by
 rw[X9,if_neg h,hb,if_neg (by decide),if_neg (by decide),if_neg (by decide),if_neg hJ,if_neg (by decide),if_neg (by decide),if_neg (by decide),if_pos ⟨rfl,by simp⟩]
 rfl
noncomputable def bU : Code := Tryz.f57.body.getD .skip
noncomputable def tU : Code := u9 [1,1,1] bU
theorem dh7 : bU = .seq (u9 [0] bU) (.seq (u9 [1,0] bU) (.seq (u9 [1,1,0] bU) tU)) := by kernel_rfl
abbrev dE5 (r : Nat) (s : List UInt8) (P d : Int) (o : Ob) (nx : Nat) : s8 := fun u a o' nx'=>(u = .normal ∨ u = .ret)∧wO (s7 Tryz.prog a ⟨o',nx'⟩ Tryz.f57.results.toList) (fun vs=>RdPost r s d (spU.ok s P d) (spU.bad s P d) o nx (ac3 vs) o' nx')
theorem bz7 {s : List UInt8} {r nx p : Nat} {P d : Int} {o o3 : Ob} {nx3 : Nat} {g : Tag} {l : List Nd} {a : v6} (hn : nx+1≤nx3) (hne : l ≠ []) (hll : l.length≤300) (hp1 : nx≤p) (hkp : KeepR r nx o o3) (a2 : a 2 = .ptr (nx,2) (nx,2) 0) (a3 : a 3 = .ref (p,8) g 0 l.length)
  (o22 : o3 (nx,2) = some (.row ⟨28,1,(nx,2),false,true,nd0⟩)) (o28 : o3 (p,8) = some (.row ⟨28,5,g,false,true,G0 l⟩))
  (hR : ∀ (o4 : Ob) (nx4 : Nat),nx3≤nx4→o4 (r,13) = o3 (r,13)→(∃ P',spU.ok s P d (A6 5 l) P'∧Rdr o4 nx4 r s P' d 0) ∨ (∃ P' d' e,e ≠ 0∧spU.bad s P d P' e∧Rdr o4 nx4 r s P' d' e)) :
  WP (EX md0 XRd) crU 1000 (fun _=>none) tU a o3 nx3 (dE5 r s P d o nx):=by
 have htk : (G0 l).take (l.length * 5) = G0 l:=j7 (y0 l)
 have hcl:=y0 l
 have hlp : l.length ≠ 0:=fun h'=>hne (List.length_eq_zero_iff.1 h')
 simp only[tU,bU,Tryz.f57,Option.getD_some,u9]
 by_cases h1 : l.length = 1
 ·obtain ⟨y,rfl⟩ : ∃ y,l = [y]:=List.length_eq_one_iff.1 h1
  have hy : G0 [y] = cNd y++[]:=by rw[A5,List.append_nil]
  rw[hy] at o28
  simp (disch:=omega) only[go_sem,a2,a3,o22,o28]
  exact ⟨.inr rfl,by
   simp only[Tryz.f57]
   simp (disch:=omega) only[go_sem,a2]
   exact ⟨by omega,m6 hkp (Nat.le_refl _),fun q hq=>(by rw[ae8] at hq;cases hq),y,ae7 _ _,hR _ _ (by omega) (m8 (by simp))⟩⟩
 ·have h1' : ¬ (l.length : Int) = 1:=by omega
  rw[bS8 (by omega)] at hR
  simp (disch:=omega) only[go_sem,a2,a3,o22,o28,h1']
  exact ⟨.inr rfl,by
   simp only[Tryz.f57]
   simp (disch:=omega) only[go_sem,a2]
   exact .ref_mk (ro:=false) (by rw[m8 (by simp)];exact o28) hp1 (by omega) (m6 hkp (Nat.le_refl _)) (hR _ _ (by omega) (m8 (by simp)))⟩
set_option maxHeartbeats 4000000 in
theorem bT3 {s : List UInt8} (hs : s.length≤200) {m : Int} (hA : Can 82 spJ s m 30) : Can 57 spU s m 30 := by
 intro r nx o P d hm hP0 hP1 hd0 hd1 h
 refine aF3 (E:=EX md0 XRd) rfl au9 dh6 mixed (k:=1000) Tryz.func57 (bT0 _) rfl h ?_
 have hrow:=h.row
 have hlt0:=h.lt
 show WP (EX md0 XRd) crU 1000 (fun _=>none) bU _ o nx (dE5 r s P d o nx)
 rw[dh7]
 generalize hc : tU = c
 simp only[bU,Tryz.f57,Option.getD_some,u9]
 simp (disch:=omega) only[go_sem,hrow,bq5]
 refine ae6 (s:=s) (P:=P) (d:=d) (hA _ _ _ P d hm hP0 hP1 hd0 hd1 ⟨by omega,by simp[b9,hrow]⟩) ⟨by omega,by simp[b9,hrow]⟩ (fun n o1 nx1 k1 k2 k3=>?_)
 have o12 : o1 (nx,2) = some (.row ⟨28,1,(nx,2),false,true,nd0⟩):=by rw[k2 nx 2 (by omega) (by simp)];simp[b9]
 simp (disch:=omega) only[go_sem,o12]
 have k4 : ∃ x d' e,Rdr o1 nx1 r s x d' e∧dE4 s P d x d' e [n]∧(0≤x ∨ e ≠ 0):=by
  rcases k3 with ⟨P',⟨q1,q2,q3,q5⟩,q4⟩ | ⟨P',d',e,q1,q2,q3⟩
  ·exact ⟨P',d,0,q4,.inl ⟨rfl,rfl,q1,q2,by show (1 : Int)≤_;omega,q3,fun B hB=>by obtain ⟨J,g1,g2,g3⟩:=q5 [] B hB;exact ⟨[],J,g1,by rw[g2];rfl,g3⟩⟩,by omega⟩
  ·exact ⟨P',d',e,q3,.inr ⟨q1,by simp,fun B hB=>q2 [] B hB⟩,.inr q1⟩
 clear k3
 obtain ⟨x,d',e,k5,k6,k7⟩:=k4
 have e1 : G0 [n] = cNd n:=A5 n
 refine o9 (fun m a o2 nx2=>∃ (x d' e : Int) (l : List Nd) (p : Nat) (g : Tag),m = (if e = 0 then s.length - x.toNat+1 else 0)∧nx+1≤nx2∧nx≤p∧p < nx2∧l ≠ []∧a 0 = rdP r∧a 2 = .ptr (nx,2) (nx,2) 0∧a 3 = .ref (p,8) g 0 l.length∧Rdr o2 nx2 r s x d' e∧KeepR r nx o o2∧o2 (nx,2) = some (.row ⟨28,1,(nx,2),false,true,nd0⟩)∧o2 (p,8) = some (.row ⟨28,5,g,false,true,G0 l⟩)∧dE4 s P d x d' e l∧(0≤x ∨ e ≠ 0)) (if e = 0 then s.length - x.toNat+1 else 0) (by split <;> omega) ?_ ?_
 ·refine ⟨x,d',e,[n],_,_,rfl,by omega,?_,?_,by simp,by simp (disch:=omega) only[go_sem],by simp (disch:=omega) only[go_sem],by simp (disch:=omega) only[go_sem];rfl,k5.to (by omega) (by simp[b9,k5.row]),m6 ((m6 (KeepR.refl _ _ _) (Nat.le_refl _)).trans (k2.up (nx:=nx) (by omega)) (Nat.le_refl _)) (by omega),by simp[b9,o12],by simp[b9,e1],k6,k7⟩
  ·omega
  ·omega
 clear k1 k2 k5 k6 k7 o12 hrow e1
 rintro m a o2 nx2 ⟨x,d',e,l,p,g,rfl,hnx,hp1,hp2,hne,a0,a2,a3,hS,hkp,o22,o28,hJn,hx0⟩
 have h2:=hS.row
 have hrlt:=hS.lt
 have hnext:=L9 s x d' e hx0
 have hll : l.length≤300:=by rcases hJn with ⟨_,_,_,_,g',_⟩ | ⟨_,g',_⟩ <;> omega
 have htk : (G0 l).take (l.length * 5) = G0 l:=j7 (y0 l)
 have hcl:=y0 l
 have hstop : ((s.length : Int)≤x ∨ e ≠ 0 ∨ z7 s x = 41)→∀ (a' : v6) (nx3 : Nat),nx2≤nx3→a' 2 = .ptr (nx,2) (nx,2) 0→a' 3 = .ref (p,8) g 0 l.length →
   WP (EX md0 XRd) crU 1000 (fun _=>none) c a' o2 nx3 (dE5 r s P d o nx):=by
  intro g3 a' nx3 g1 a2 a3
  rw[← hc]
  refine bz7 (by omega) hne hll hp1 hkp a2 a3 o22 o28 (fun o4 nx4 q1 q2=>?_)
  have hR : Rdr o4 nx4 r s x d' e:=hS.to (by omega) (by rw[q2];exact h2)
  rcases hJn with ⟨rfl,rfl,p1,p2,p3,p4,p5⟩ | ⟨p1,p2,p3⟩
  ·exact .inl ⟨x,⟨p1,p2,by rcases g3 with g3 | g3 | g3 <;> simp_all,fun B hB=>by obtain ⟨U,J,g4,g5,g6⟩:=p5 B hB;exact ⟨U,J,g4,by rw[g5],g6⟩⟩,hR⟩
  ·exact .inr ⟨x,d',e,p1,p3,hR⟩
 by_cases hst : (s.length : Int)≤x ∨ e ≠ 0
 ·rw[M3 hst] at hnext
  simp (disch:=omega) only[go_sem,a0,a2,a3,h2,hnext]
  exact hstop (by rcases hst with g' | g';exact .inl g';exact .inr (.inl g')) _ _ (by omega) (by simp (disch:=omega) only[go_sem,a2]) (by simp (disch:=omega) only[go_sem,a3])
 have he : e = 0:=Classical.not_not.1 (fun g=>hst (.inr g))
 have hend : ¬ (s.length : Int)≤x:=fun g=>hst (.inl g)
 subst he
 obtain ⟨_,rfl,p1,p2,p3,p4,p5⟩ : 0 = (0 : Int)∧d' = d∧P < x∧x≤s.length∧(l.length : Int)≤x - P∧((s.length : Int)≤x ∨ z7 s x = 124 ∨ z7 s x = 41)∧∀ (B : Lvs),(B.length : Int) = d→∃ U J,J ≠ []∧U++[A6 4 J] = l∧pG s P [] [] B = pG s x U J B:=by
  rcases hJn with g | g
  ·exact g
  ·exact absurd rfl g.1
 have p4:=p4.resolve_left hend
 obtain ⟨ch,hch,hbt⟩:=L8 (a:=x) (by omega) hend
 rw[Y2 hend,hbt] at hnext
 rw[if_pos rfl]
 by_cases h124 : (ch.toNat : Int) ≠ 124
 ·have h41 : z7 s x = 41:=p4.resolve_left (by rw[hbt];exact h124)
  rw[hbt] at h41
  rw[h41] at hnext hbt
  simp (disch:=omega) only[go_sem,a0,a2,a3,h2,hnext]
  exact hstop (.inr (.inr hbt)) _ _ (by omega) (by simp (disch:=omega) only[go_sem,a2]) (by simp (disch:=omega) only[go_sem,a3])
 have h124 : (ch.toNat : Int) = 124:=Classical.not_not.1 h124
 rw[h124] at hnext hbt
 clear hstop
 simp (disch:=omega) only[go_sem,a0,a2,a3,h2,hnext,bq5]
 refine ae6 (s:=s) (P:=x+1) (d:=d') (hA _ _ _ (x+1) d' (by omega) (by omega) (by omega) hd0 hd1 ⟨by omega,d8 _ _ _⟩) ⟨by omega,d8 _ _ _⟩ (fun n o3 nx3 k1 k2 k3=>?_)
 have o32 : o3 (nx,2) = some (.row ⟨28,1,(nx,2),false,true,nd0⟩):=by rw[k2 nx 2 (by omega) (by simp),m8 (by simp)];exact o22
 have o38 : o3 (p,8) = some (.row ⟨28,5,g,false,true,G0 l⟩):=by rw[k2 p 8 (by omega) (by simp),m8 (by simp)];exact o28
 have hk3 : KeepR r nx o o3:=(u6 hkp).trans (k2.up (nx:=nx) (by omega)) (Nat.le_refl _)
 have hsn : G0 (l++[n]) = G0 l++cNd n:=by rw[W1,A5]
 have k4 : ∃ x' d'' e,Rdr o3 nx3 r s x' d'' e∧dE4 s P d' x' d'' e (l++[n])∧(0≤x' ∨ e ≠ 0)∧(if e = 0 then s.length - x'.toNat+1 else 0) < s.length - x.toNat+1:=by
  rcases k3 with ⟨P',⟨q1,q2,q3,q5⟩,q4⟩ | ⟨P',d',e,q1,q2,q3⟩
  ·exact ⟨P',d',0,q4,.inl ⟨rfl,rfl,by omega,q2,by rw[List.length_append];show ((l.length+1 : Nat) : Int)≤_;omega,q3,fun B hB=>by
    obtain ⟨U,J,g1,g2,g3⟩:=p5 B hB
    obtain ⟨J',g4,g5,g6⟩:=q5 l B hB
    exact ⟨l,J',g4,by rw[g5],by rw[g3,bT1 hend hbt g1,g2,g6]⟩⟩,by omega,by rw[if_pos rfl];omega⟩
  ·exact ⟨P',d',e,q3,.inr ⟨q1,by rw[List.length_append];show l.length+1≤300;omega,fun B hB=>by
    obtain ⟨U,J,g1,g2,g3⟩:=p5 B hB
    rw[g3,bT1 hend hbt g1,g2,q2 l B hB]⟩,.inr q1,by rw[if_neg q1];omega⟩
 clear k3
 obtain ⟨x',d'',e,k5,k6,k7,k8⟩:=k4
 simp (disch:=omega) only[go_sem,a0,a2,a3,o32,o38,htk,hcl]
 exact ⟨_,k8,x',d'',e,l++[n],p,_,rfl,by omega,hp1,by omega,by simp,by rw[List.length_append];rfl,k5.to (Nat.le_refl _) (by rw[m8 (by simp),m8 (by simp)];exact k5.row),m6 (m6 hk3 (by omega)) hp1,by rw[if_pos rfl,hsn],k6,k7⟩
theorem bT4 (X) : d9 (EX md0 X) (fun _=>none) 1 Tryz.f103 = true := by kernel_rfl
noncomputable def crG : v8 := p8 [(57,B1 (RRd 57 spU)),(58,aF0)]
theorem dh8 : x8 Tryz.prog crG∧Up crG := m9 (m9 (C1 _) ax3) fun args H v H' h=>(u0 h).1
theorem bT5 : crG 57 = B1 (RRd 57 spU) := rfl
theorem aQ4 : crG 58 = aF0 := rfl
theorem cH5 {s : List UInt8} {P : Int} {U J} {b} {B : Lvs} (h : (s.length : Int)≤P) : pG s P U J (b :: B) = (B2,P,3) := by
 rw[X9,if_pos h,if_pos (.inl (by simp))]
theorem bT6 {s : List UInt8} (hs : s.length≤200) {m : Int} (hA : Can 57 spU s m 30) : Can 103 spG s m 29 := by
 intro r nx o P d hm hP0 hP1 hd0 hd1 h
 refine aF3 (E:=EX md0 XRd) rfl au9 dh8 mixed (k:=1000) Tryz.func103 (bT4 _) rfl h ?_
 have hrow:=h.row
 have hlt0:=h.lt
 simp only[Tryz.f103,Option.getD_some]
 simp (disch:=omega) only[go_sem,hrow,bT5]
 have hkp0 : KeepR r nx o (upd (upd o (nx,2) (.row ⟨28,1,(nx,2),false,true,nd0⟩)) (r,13) (.row ⟨124,1,(r,13),false,true,[.str s,.int .i64 P,.int .i64 (d+1),.int .i64 0]⟩)):=u6 (m6 (KeepR.refl _ _ _) (Nat.le_refl _))
 refine ae6 (s:=s) (P:=P) (d:=d+1) (hA _ _ _ P (d+1) hm hP0 hP1 (by omega) (by omega) ⟨by omega,d8 _ _ _⟩) ⟨by omega,d8 _ _ _⟩ (fun n o1 nx1 k1 k2 k3=>?_)
 have o12 : o1 (nx,2) = some (.row ⟨28,1,(nx,2),false,true,nd0⟩):=by rw[k2 nx 2 (by omega) (by simp)];simp[b9]
 have hk1 : KeepR r nx o o1:=hkp0.trans (k2.up (nx:=nx) (by omega)) (Nat.le_refl _)
 have hBs : ∀ U J (B : Lvs),(B.length : Int) = d→(((U,J) :: B : Lvs).length : Int) = d+1:=fun U J B hB=>by rw[List.length_cons];omega
 obtain ⟨nk,ns,nlo,nhi,nl⟩:=n
 rcases k3 with ⟨x,⟨q1,q2,q3,q5⟩,q4⟩ | ⟨x,d',e,q1,q2,q3⟩
 ·have h2:=q4.row
  have hnext:=L9 s x (d+1) 0 (by omega)
  by_cases hend : (s.length : Int)≤x
  ·rw[M3 (.inl hend)] at hnext
   simp (disch:=omega) only[go_sem,o12,h2,hnext,aQ4]
   refine A9 (P:=x) (d:=d+1) (e:=0) (s:=s) ⟨by have:=q4.lt;omega,by simp[b9,h2]⟩ (fun o2 nx2 g1 g2 g3=>?_)
   have o22 : o2 (nx,2) = some (.row ⟨28,1,(nx,2),false,true,nd0⟩):=by rw[g2 nx 2 (by omega) (by simp)];simp[b9,o12]
   simp (disch:=omega) only[go_sem,o22]
   exact .bad_mk B2 x (d+1) 3 (by omega) (m6 ((m6 (m6 hk1 (by omega)) (by omega)).trans (g2.up (nx:=nx) (by omega)) (Nat.le_refl _)) (Nat.le_refl _)) (J2 _ _ _ _ _ _) (J3 _ _ _ _ _ _) (by decide) (fun U J B hB=>by
    obtain ⟨U',J',g4,g5,g6⟩:=q5 _ (hBs U J B hB)
    rw[g6,cH5 hend]) (g3.to (Nat.le_refl _) (by rw[m8 (by simp)];exact g3.row))
  ·have h41:=q3.resolve_left hend
   rw[Y2 hend,h41] at hnext
   have ed : d+1 - 1 = d:=by omega
   simp (disch:=omega) only[go_sem,o12,h2,hnext,aQ4,ed]
   exact .ok_mk (.mk nk ns nlo nhi nl) (x+1) (by omega) (m6 (u6 (u6 (m6 (m6 hk1 (by omega)) (by omega)))) (Nat.le_refl _)) (J2 _ _ _ _ _ _) (J3 _ _ _ _ _ _) ⟨by omega,by omega,fun U J B hB=>by
    obtain ⟨U',J',g4,g5,g6⟩:=q5 _ (hBs U J B hB)
    rw[g6,bT2 hend h41 g4,g5]⟩ (q4.to (by omega) (by rw[m8 (by simp),d8]))
 ·have h2:=q3.row
  have hnext:=L9 s x d' e (.inr q1)
  rw[M3 (.inr q1)] at hnext
  simp (disch:=omega) only[go_sem,o12,h2,hnext,aQ4]
  refine A9 (P:=x) (d:=d') (e:=e) (s:=s) ⟨by have:=q3.lt;omega,by simp[b9,h2]⟩ (fun o2 nx2 g1 g2 g3=>?_)
  rw[if_neg q1] at g3
  have o22 : o2 (nx,2) = some (.row ⟨28,1,(nx,2),false,true,nd0⟩):=by rw[g2 nx 2 (by omega) (by simp)];simp[b9,o12]
  simp (disch:=omega) only[go_sem,o22]
  exact .bad_mk B2 x d' e (by omega) (m6 ((m6 (m6 hk1 (by omega)) (by omega)).trans (g2.up (nx:=nx) (by omega)) (Nat.le_refl _)) (Nat.le_refl _)) (J2 _ _ _ _ _ _) (J3 _ _ _ _ _ _) q1 (fun U J B hB=>q2 _ (hBs U J B hB)) (g3.to (Nat.le_refl _) (by rw[m8 (by simp)];exact g3.row))
theorem bT7 {s : List UInt8} (hs : s.length≤200) : ∀ (k : Nat) (m : Int),(s.length : Int) - m < k→Can 103 spG s m 29∧Can 57 spU s m 30
 | 0,m,h=>by
  have hv : ∀ f sp M,Can f sp s m M:=fun f sp M r nx o P d h1 h2 h3 _ _ _=>by omega
  exact ⟨hv _ _ _,hv _ _ _⟩
 | k+1,m,h=>by
  have hG:=(bT7 hs k (m+1) (by omega)).1
  have hU:=bT3 hs (cl8 hs (bS7 hs (cl6 hs hG)))
  exact ⟨bT6 hs hU,hU⟩
set_option maxRecDepth 20000
noncomputable def crQ : v8 := p8 [(57,B1 (RRd 57 spU)),(58,aF0)]
theorem dh9 : x8 Tryz.prog crQ∧Up crQ := m9 (m9 (C1 _) ax3) fun args H v H' h=>(u0 h).1
theorem bT8 : crQ 57 = B1 (RRd 57 spU) := rfl
theorem cl9 : crQ 58 = aF0 := rfl
def nzQ : Nat→Option (List (Nat × Nat))
 | 8=>some [(4,9),(8,9)]
 | _=>none
theorem bz8 (X) : d9 (EX md0 X) nzQ 1 Tryz.f25 = true := by kernel_rfl
theorem cm0 {s : List UInt8} {P : Int} {U J} (h : ¬ (s.length : Int)≤P) (hb : z7 s P = 41) (hJ : J ≠ []) : pG s P U J [] = (B2,P,3) := by
 rw[X9,if_neg h,hb,if_neg (by decide),if_neg (by decide),if_neg (by decide),if_neg hJ,if_neg (by decide),if_neg (by decide),if_neg (by decide),if_neg (by simp)]
theorem bT9 (s : List UInt8) : Ok Tryz.prog 25 [.str s] (.tup [j5 (v7 s).1,.int .i64 (v7 s).2.1,.int .i64 (v7 s).2.2]) := by
 refine m7 (E:=EX md0 XRd) (cr:=crQ) au9 dh9 mixed (k:=10) (nz:=nzQ) Tryz.func25 (bz8 _) rfl ?_
 rw[aX9]
 have hz : j5 B2 = .agg [.int .i64 0,.int .i64 0,.int .i64 0,.int .i64 0,.sl 0 []]:=by rw[j5,n7,slN,r8];rfl
 simp only[Tryz.f25,Option.getD_some]
 by_cases h200 : 200 < s.length
 ·rw[if_pos h200]
  have h2 : (200 : Int) < s.length:=by omega
  simp only[hz]
  simp (disch:=omega) only[go_sem,h2]
 ·rw[if_neg h200]
  have h2 : ¬ (200 : Int) < s.length:=by omega
  have hU:=(bT7 (s:=s) (by omega) (s.length+1) 0 (by omega)).2
  simp (disch:=omega) only[go_sem,h2,bT8]
  refine ae6 (s:=s) (P:=0) (d:=0) (hU _ _ _ 0 0 (by omega) (by omega) (by omega) (by omega) (by omega) ⟨by omega,d8 _ _ _⟩) ⟨by omega,d8 _ _ _⟩ (fun n o1 nx1 k1 k2 k3=>?_)
  have o12 : o1 (0,2) = some (.row ⟨28,1,(0,2),false,true,nd0⟩):=by rw[k2 0 2 (by omega) (by simp)];simp[b9]
  obtain ⟨nk,ns,nlo,nhi,nl⟩:=n
  rcases k3 with ⟨x,⟨q1,q2,q3,q5⟩,q4⟩ | ⟨x,d',e,q1,q2,q3⟩
  ·obtain ⟨U,J,g4,g5,g6⟩:=q5 [] rfl
   have hrow:=q4.row
   by_cases hend : (s.length : Int)≤x
   ·rw[g6,X9,if_pos hend,if_neg (by simp[g4]),g5]
    simp (disch:=omega) only[go_sem,o12,hrow,nzQ]
    rw[j5,n7]
   ·have h41:=q3.resolve_left hend
    rw[g6,cm0 hend h41 g4]
    have hlt : x < (s.length : Int):=by omega
    simp (disch:=omega) only[go_sem,o12,hrow,cl9,nzQ,hlt]
    refine A9 (r:=2) (P:=x) (d:=0) (e:=0) (s:=s) ⟨by omega,by simp[b9,hrow]⟩ (fun o2 nx2 g1 g2 g3=>?_)
    have hrow2:=g3.row
    have o22 : o2 (0,2) = some (.row ⟨28,1,(0,2),false,true,nd0⟩):=by rw[g2 0 2 (by omega) (by simp)];simp[b9,o12]
    simp (disch:=omega) only[go_sem,hrow2,o22,nzQ,hlt]
    rw[hz]
  ·rw[q2 [] rfl]
   have hrow:=q3.row
   simp (disch:=omega) only[go_sem,o12,hrow,q1,nzQ]
   rw[hz]
end Go.Proofs.YtpmjpogcaglphaaGreatDoor.A
