/- Machines of one way out of machines of many: Subsets. -/
import Derived.Test.YtpmjpogcaglphaaGreatDoorMLMCompiles23
set_option linter.unusedVariables false
set_option linter.unusedSimpArgs false
set_option linter.unnecessarySimpa false
namespace Go.Proofs.YtpmjpogcaglphaaGreatDoor.A
open Go
set_option maxRecDepth 20000
@[go_sem] theorem dq7 (o d k) : view o d (.mp k) = .und := by cases d <;> rfl
@[go_sem] theorem dq8 (o d k) : d5 o d (.mp k) = [] := by cases d <;> rfl
noncomputable def fS (N : Nat) (ss : List St3) (fs : List (Int × Int)) (b : List Bool) (m : Nat) : List Bool := aq7 N (u5 N fs) ss b (m : Int)
noncomputable def t0S (N : Nat) (S : Int) (fs : List (Int × Int)) : List Bool := C5 N (u5 N fs) [S]
noncomputable def an0 (N : Nat) (S : Int) (ss : List St3) (fs : List (Int × Int)) (cap : Nat) : Option (List (List Bool) × List Nat) := bt7 (fS N ss fs) cap 1002 0 [t0S N S fs] []
def O8 (l : List Nat) : List Int := l.map Int.ofNat
def W4 (F : Int) (L : List (List Bool)) : List Bool := L.map fun b=>b.getD F.toNat false
theorem ch4 : (instBEqOfDecidableEq : BEq (List Bool)) = List.instBEq := by
 have h : ∀ (a b : BEq (List Bool)) (_ : ∀ x y,a.beq x y = b.beq x y),a = b:=fun a b h=>by
  cases a;cases b
  congr
  funext x y
  exact h x y
 refine h _ _ fun x y=>?_
 rw[Bool.eq_iff_iff]
 exact ⟨fun e=>by rw[show x = y from of_decide_eq_true e];exact beq_self_eq_true y,fun e=>decide_eq_true (eq_of_beq (α:=List Bool) e)⟩
theorem aY2 (f : List Bool→Nat→List Bool) (x m L) : H7 f x (m+1) L = (ao6 (H7 f x m L).1 (f x m),(H7 f x m L).2++[(H7 f x m L).1.idxOf (f x m)]) := by
 have h : H7 f x (m+1) L = (ao6 (H7 f x m L).1 (f x m),(H7 f x m L).2++[@List.idxOf _ instBEqOfDecidableEq (f x m) (H7 f x m L).1]):=rfl
 rw[ch4] at h
 exact h
theorem SubAt.slot {o nx N S F ss fs lr L} (h : SubAt o nx N S F ss fs lr L) {o' : Ob} {nx' : Nat} (hk : ∀ j k,k ≠ 11→k ≠ 9→k ≠ 93→k ≠ 106→k ≠ 92→k ≠ 105→o' (j,k) = o (j,k)) (hn : nx≤nx') : SubAt o' nx' N S F ss fs lr L := by
 obtain ⟨lcs,vS,scs,h⟩:=h
 have h2:=h.two
 have hk : ∀ j k,(k = 20 ∨ k = 17 ∨ k = 18 ∨ k = 44 ∨ k = 45 ∨ k = 34)→o' (j,k) = o (j,k):=fun j k h=>hk j k (by omega) (by omega) (by omega) (by omega) (by omega) (by omega)
 exact ⟨lcs,vS,scs,⟨by omega,by rw[hk _ _ (by decide)];exact h.row,by rw[hk _ _ (by decide)];exact h.leads,h.rows.keep (fun i hi=>hk i _ (by decide)) hn,h.ll,by rw[hk _ _ (by decide)];exact h.known,h.hs.keep (fun i hi=>hk i _ (by decide)) hn,h.ni.keep (fun i hi=>hk i _ (by decide)) hn,h.ne⟩⟩
theorem aw8 (x y) : O8 (x++y) = O8 x++O8 y := by simp[O8]
theorem r7 (x) : (O8 x).length = x.length := by simp[O8]
theorem w7 (F L) : (W4 F L).length = L.length := by simp[W4]
theorem ae2 (N ss fs b m) : (fS N ss fs b m).length = N := by unfold fS aq7;exact R6 ..
theorem ag8 (N S fs) : (t0S N S fs).length = N := R6 ..
def cC1 : AV := .tup [.agg [.sl 0 [],.sl 0 []],.int .i64 5]
noncomputable def bO6 (F : Int) (r : Option (List (List Bool) × List Nat)) : AV := match r with
 | none=>cC1
 | some (L,R)=>.tup [S7 L.length (O8 R) (W4 F L),.int .i64 0]
noncomputable def cC2 : FuncId→List AV→Option AV := t7 [(54,D9 cO5),(56,D9 dq6)]
theorem cC3 : s6 Tryz.prog cC2 := l8 (l8 (t6 _) (n8 cB9)) (n8 bO5)
theorem ch5 {N : Nat} {S F : Int} {ss fs} (hw : Wf N S F ss fs) (l : List Int) (h : l.length≤9000000) : cC2 54 [Z0 N S F ss fs,slI l] = some (slI (E0 (C5 N (u5 N fs) l))) := o8 (R := cO5) bO4 ⟨_,_,_,_,_,_,hw,h,rfl,rfl⟩
theorem ch6 (N S F : Int) (rest : List AV) (l : List Int) (h : l.length≤100000) : cC2 56 [.fptr (.int .i64 N :: .int .i64 S :: .int .i64 F :: rest),slI l] = some (.bool (decide (F ∈ l))) := o8 (R := dq6) cB7 ⟨_,_,_,_,_,h,rfl,rfl⟩
def ae3 : Nat→Option (List (Nat × Nat))
 | 1=>some [(0,3),(0,4),(2,4),(3,4)]
 | 5=>some [(3,15),(5,15),(9,15),(11,15),(13,15),(3,16),(5,16)]
 | 20=>some [(1,3),(3,6),(4,6),(3,11),(4,11),(3,14),(4,14),(6,16)]
 | 21=>some [(3,5),(3,6),(1,7),(2,7),(3,7),(1,9),(2,9),(3,9),(5,9),(6,9),(7,9)]
 | _=>none
theorem cC4 (X) : d9 (EX md0 X) ae3 2 Tryz.f24 = true := by kernel_rfl
set_option maxHeartbeats 4000000 in
theorem db1 (N : Nat) (S F : Int) (ss fs) (hN : N≤1000) (hw : Wf N S F ss fs) (hss : ss.length≤1000) (cap : Nat) (hc1 : 1≤cap) (hc2 : cap≤1000) :
  WP (EX md0 cC2) bx8 1003 ae3 (Tryz.f24.body.getD .skip) (A2 [Z0 N S F ss fs,.int .i64 cap]) (fun _=>none) 0 (fun u a o nx=>u = .ret∧view o p9 (.tup [(N8 Tryz.prog 37 (a 4) ⟨o,nx⟩).getD .und,a 5]) = bO6 F (an0 N S ss fs cap)):=by
 have hS:=hw.s
 have hF:=hw.f
 simp only[Tryz.f24,Option.getD_some]
 simp (disch:=omega) only[go_sem,ae3,aB1]
 refine o9 (fun mm a o nx=>∃ i lcs,i≤ss.length∧mm = ss.length - i∧SubRow o nx N S F ss fs (A1 N (ss.take i)) [] lcs .nil []∧a 1 = .int .i64 cap∧a 2 = .ptr (0,2) (0,2) 0∧a 4 = .ptr (0,4) (0,4) 0∧a 5 = .int .i64 0∧a 6 = ch2∧a 22 = .sl ss.length (cS ss)∧a 23 = .int .i64 ss.length∧a 24 = .int .i64 i∧o (0,2) = some (.row ⟨62,1,(0,2),false,true,[.int .i64 N,.int .i64 S,.int .i64 F,.sl ss.length (cS ss),.sl fs.length (cP fs)]⟩)∧o (0,4) = some (.row ⟨37,1,(0,4),false,true,[.nil,.nil]⟩)) ss.length (by omega) ⟨0,List.replicate N .nil,by omega,by omega,⟨by omega,?_,?_,NS.start _ _ _ N,by simp[A1],?_,HS.nil,⟨rfl,fun j hj=>absurd hj (by simp),fun j j' i g n g' n' _ h=>by simp at h⟩,fun x hx=>absurd hx (by simp)⟩,?_⟩ ?_
 ·simp (disch:=omega) only[go_sem]
 ·simp (disch:=omega) only[go_sem]
 ·simp (disch:=omega) only[go_sem]
  rfl
 ·simp (disch:=omega) only[go_sem]
 rintro mm a o nx ⟨i,lcs,hi,rfl,hR,h1,h2,h4,h5,h6,h22,h23,h24,ho2,ho4⟩
 have htwo:=hR.two
 have ho20:=hR.row
 have ho17:=hR.leads
 have ho18:=hR.known
 have hNS:=hR.rows
 by_cases hlt : i < ss.length
 ·obtain ⟨⟨hf0,hfN⟩,_⟩:=hw.steps (ss.getD i (0,0,0)) (J6 hlt _)
  have hat:=cx1 hlt
  have htake:=q8 hlt (0,0,0)
  generalize ss.getD i (0,0,0) = p at hf0 hfN hat htake
  obtain ⟨f,t,set⟩:=p
  simp only at hf0 hfN hat htake
  obtain ⟨j,rfl⟩:=Int.eq_ofNat_of_zero_le hf0
  have hrl:=Y0 N (ss.take i)
  have hcl : lcs.length = N:=by rw[hNS.1,hrl]
  have hjN : j < lcs.length:=by omega
  have hH:=hNS.2.1 j (by omega)
  have hget:=au1 (s:=1) hjN
  generalize hv : lcs.getD j .nil = v at hH hget
  have hspl : ∀ v,w9 lcs j [v] = lcs.set j v:=fun v=>Y9 lcs j v hjN
  have hnext : A1 N (ss.take (i+1)) = (A1 N (ss.take i)).set j ((A1 N (ss.take i)).getD j []++[((j : Int),t,set)]):=by rw[htake,aY0];rfl
  have hjr : j < (A1 N (ss.take i)).length:=by omega
  have hle:=ar5 N (ss.take i) j
  have hlt' : (ss.take i).length≤ss.length:=by simp;omega
  rcases hH with ⟨rfl,e2,e3⟩ | ⟨i1,g,rfl,hi1,hrow,hlen⟩
  ·simp (disch:=omega) only[go_sem,ae3,h1,h2,h4,h5,h6,h22,h23,h24,ho2,ho4,ho20,ho17,hat,hget,hspl]
   have e4 : (A1 N (ss.take i)).getD j [] = []:=List.length_eq_zero_iff.1 e2
   refine ⟨_,?_,i+1,_,by omega,rfl,⟨by omega,?_,d8 _ _ _,?_,Y0 _ _,?_,HS.nil,?_,fun x hx=>absurd hx (by simp)⟩,rfl⟩
   ·omega
   ·simp (disch:=omega) only[go_sem,ho20]
   ·rw[hnext,e4]
    exact NS.set (l:=[((j : Int),t,set)]) hNS hjr rfl (by omega) (by omega) (.inl ⟨hv,by omega⟩) (fun i' _ h=>by simp[b9,h]) (by simp[b9,cS])
   ·simp (disch:=omega) only[go_sem,ho18]
   ·exact hR.ni.keep (fun _ _=>by simp[b9]) (by omega)
  ·generalize (A1 N (ss.take i)).getD j [] = r at *
   simp (disch:=omega) only[go_sem,ae3,h1,h2,h4,h5,h6,h22,h23,h24,ho2,ho4,ho20,ho17,hat,hget,hspl,hrow]
   refine ⟨_,?_,i+1,_,by omega,rfl,⟨by omega,?_,d8 _ _ _,?_,Y0 _ _,?_,HS.nil,?_,fun x hx=>absurd hx (by simp)⟩,rfl⟩
   ·omega
   ·simp (disch:=omega) only[go_sem,ho20]
   ·rw[hnext]
    exact NS.set (l:=r++[((j : Int),t,set)]) hNS hjr (by simp) (by omega) (by omega) (.inr ⟨_,_,hv⟩) (fun i' _ h=>by simp[b9,h]) (by simp[b9,cS])
   ·simp (disch:=omega) only[go_sem,ho18]
   ·exact hR.ni.keep (fun _ _=>by simp[b9]) (by omega)
 ·have hie : i = ss.length:=by omega
  subst hie
  rw[List.take_length] at hR
  have hclo : cC2 54 [Z0 N S F ss fs,.sl 1 [.int .i64 S]] = some (slI (E0 (t0S N S fs))):=ch5 hw [S] (by simp)
  have hk0 : BKeep40 nx o (I7 [(nx+1,51)] (upd o (nx+1,51) (.row ⟨3,1,(nx+1,51),false,true,[.int .i64 S]⟩))):=fun i k hi hk=>by
   rw[N9 (by simp;omega),B6 (by omega)]
  simp (disch:=omega) only[go_sem,ae3,h1,h2,h4,h5,h6,h22,h23,h24,ho2,ho4,hclo]
  refine bn7 hN (SubAt.keep ⟨lcs,.nil,[],hR⟩ hk0 (by omega)) (fun b hb=>absurd hb (by simp)) (by simp) (ag8 N S fs) ?_
  intro o1 nx1 hle1 hS1 hkp1
  have hm1 : ao6 [] (t0S N S fs) = [t0S N S fs]:=rfl
  rw[hm1] at hS1
  have ho4' : o1 (0,4) = some (.row ⟨37,1,(0,4),false,true,[.nil,.nil]⟩):=by
   rw[hkp1 0 4 (by omega) (by decide) (by decide) (by decide) (by decide),hk0 0 4 (by omega) (by decide)]
   exact ho4
  clear hR ho2 ho4 hNS ho20 ho17 ho18 hkp1 hk0 hclo
  simp (disch:=omega) only[go_sem,ae3,h1,h2,h4,h5,h6,h22,h23,h24]
  have two1 : 2≤nx1:=by omega
  refine o9 (fun mm a o nx=>∃ i L R q9 vN vA,bt7 (fS N ss fs) cap (1002 - i) i L R = an0 N S ss fs cap∧mm = 1002 - i∧i≤L.length∧1≤L.length∧L.length≤cap∧R.length = i * 5∧(∀ b ∈ L,b.length = N)∧SubAt o nx N S F ss fs (A1 N ss) L∧q9 < nx∧o (q9,9) = some (.row ⟨37,1,(q9,9),false,true,[vN,vA]⟩)∧HS 48 5 93 o nx vN i (cI (O8 R))∧HS 4 1 106 o nx vA i (cB (W4 F (L.take i)))∧o (0,4) = some (.row ⟨37,1,(0,4),false,true,[.nil,.nil]⟩)∧a 1 = .int .i64 cap∧a 4 = .ptr (0,4) (0,4) 0∧a 5 = .int .i64 0∧a 6 = ch2∧a 9 = .ptr (q9,9) (q9,9) 0∧a 10 = .int .i64 i) 1002 (by omega)
   ⟨0,[t0S N S fs],[],nx1,.nil,.nil,rfl,by omega,by simp,by simp,by simp;omega,rfl,fun b hb=>by rw[List.mem_singleton.1 hb];exact ag8 N S fs,hS1.keep (fun i k hi hk=>by rw[B6 (by omega)]) (by omega),by omega,d8 _ _ _,HS.nil,HS.nil,by simp (disch:=omega) only[go_sem,ho4'],by simp (disch:=omega) only[go_sem,h1],by simp (disch:=omega) only[go_sem,h4],by simp (disch:=omega) only[go_sem,h5],by simp (disch:=omega) only[go_sem,h6],by simp (disch:=omega) only[go_sem],by simp (disch:=omega) only[go_sem]⟩ ?_
  clear hS1 ho4' h1 h2 h4 h5 h6 h22 h23 h24
  rintro mm a o nx ⟨i,L,R,q9,vN,vA,hB,rfl,hi,hL1,hLc,hRl,hLN,hSub,hq9,ho9,hvN,hvA,ho4,h1,h4,h5,h6,h9,h10⟩
  have hSub':=hSub
  obtain ⟨lcs,vS,scs,hR⟩:=hSub'
  have two:=hR.two
  have ho20:=hR.row
  have hLs:=hR.hs
  by_cases hlt : i < L.length
  ·rcases hLs with ⟨_,e,_⟩ | ⟨i5,g5,rfl,hi5,hro5,hl5⟩
   ·omega
   obtain ⟨x,hx⟩ : ∃ x,L[i]? = some x:=⟨_,List.getElem?_eq_getElem hlt⟩
   have hxN:=hLN x (List.mem_of_getElem? hx)
   simp (disch:=omega) only[go_sem,ae3,h1,h4,h5,h6,h9,h10,ho20]
   refine o9 (fun mm a o' nx'=>∃ m q11,m≤5∧mm = 5 - m∧nx≤nx'∧SubAt o' nx' N S F ss fs (A1 N ss) (H7 (fS N ss fs) x m L).1∧(H7 (fS N ss fs) x m L).1.length≤cap∧nx≤q11∧q11 < nx'∧o' (q11,11) = some (.row ⟨48,1,(q11,11),false,true,cI (O8 (H7 (fS N ss fs) x m L).2++List.replicate (5 - m) 0)⟩)∧(∀ j k,j < nx→(k = 9 ∨ k = 93 ∨ k = 106 ∨ k = 4)→o' (j,k) = o (j,k)) ∧
    a 1 = .int .i64 cap∧a 4 = .ptr (0,4) (0,4) 0∧a 5 = .int .i64 0∧a 6 = ch2∧a 9 = .ptr (q9,9) (q9,9) 0∧a 10 = .int .i64 i∧a 11 = .ptr (q11,11) (q11,11) 0∧a 63 = .int .i64 m) 5 (by omega)
    ⟨0,nx+1,by omega,by omega,by omega,hSub.keep (fun j k hj hk=>by rw[B6 (by omega)]) (by omega),hLc,by omega,by omega,d8 _ _ _,fun j k hj hk=>by rw[B6 (by omega)],by simp (disch:=omega) only[go_sem,h1],by simp (disch:=omega) only[go_sem,h4],by simp (disch:=omega) only[go_sem,h5],by simp (disch:=omega) only[go_sem,h6],by simp (disch:=omega) only[go_sem,h9],by simp (disch:=omega) only[go_sem,h10],by simp (disch:=omega) only[go_sem],by simp (disch:=omega) only[go_sem]⟩ ?_
   clear hR ho20 hro5 hl5 hSub h1 h4 h5 h6 h9 h10
   rintro mm a o' nx' ⟨m,q11,hm,rfl,hnx',hSub,hcap,hq11',hq11,ho11,hkp,h1,h4,h5,h6,h9,h10,h11,h63⟩
   have hpre:=aw1 (f:=fS N ss fs) x m L
   have hrl:=ag3 (f:=fS N ss fs) x m L
   have hrN:=aO0 (f:=fS N ss fs) (fun b=>b.length = N) x (fun m=>ae2 N ss fs x m) m hLN
   have hx':=aN8 hpre hx
   have hsucc:=aY2 (fS N ss fs) x m L
   by_cases hm5 : m < 5
   ·have hSub':=hSub
    obtain ⟨lcs',vS',scs',hR'⟩:=hSub'
    have ho20:=hR'.row
    have hltL : i < (H7 (fS N ss fs) x m L).1.length:=(List.getElem?_eq_some_iff.1 hx').1
    generalize hL' : (H7 (fS N ss fs) x m L).1 = L' at *
    generalize hR2 : (H7 (fS N ss fs) x m L).2 = R' at *
    rcases hR'.hs with ⟨_,e,_⟩ | ⟨i6,g6,rfl,hi6,hro6,hl6⟩
    ·omega
    have hsl : i < scs'.length:=by omega
    have hget:=au1 (s:=1) hsl
    have hgi : (L'.map E0).getD i [] = E0 x:=by simp[List.getD,hx']
    have hH:=hR'.ni.2.1 i (by simpa using hltL)
    rw[hgi] at hH
    rcases hH with ⟨e,_,_⟩ | ⟨i7,g7,e7,hi7,hro7,_⟩
    ·exact absurd e (hR'.ne _ (J6 hsl _))
    rw[e7] at hget
    simp (disch:=omega) only[go_sem,ae3,h1,h4,h5,h6,h9,h10,h11,h63,ho20,hro6,hget]
    refine cC0 (by omega) hw hss (hSub.keep (fun _ _ _ _=>rfl) (by omega)) hxN (by omega) hro7 (by omega) ?_
    intro o2 nx2 hle2 hk2
    obtain ⟨t,ht⟩ : ∃ t,t = fS N ss fs x m:=⟨_,rfl⟩
    have hst : aq7 N (u5 N fs) ss x (m : Int) = t:=ht.symm
    have htl : t.length = N:=by rw[ht];exact ae2 N ss fs x m
    rw[← ht] at hsucc
    rw[hst]
    simp (disch:=omega) only[go_sem,ae3,h1,h4,h5,h6,h9,h10,h11,h63]
    refine bn7 hN ((hSub.keep (nx':=nx'+1+1+1) (fun _ _ _ _=>rfl) (by omega)).keep hk2 (by omega)) hrN (by omega) htl ?_
    intro o3 nx3 hle3 hS3 hk3
    have old : ∀ j k,j < nx'→k ≠ 20→k ≠ 18→k ≠ 45→k ≠ 40→o3 (j,k) = o' (j,k):=fun j k hj a1 a2 a3 a4=>by
     rw[hk3 j k (by omega) a1 a2 a3 a4,hk2 j k (by omega) a4]
    have ho11':=(old q11 11 hq11 (by decide) (by decide) (by decide) (by decide)).trans ho11
    have ho4':=(old 0 4 (by omega) (by decide) (by decide) (by decide) (by decide)).trans ((hkp 0 4 (by omega) (by decide)).trans ho4)
    have hpos : 1≤(ao6 L' t).length:=by have:=(aN9 L' t).length_le;omega
    have hS3':=hS3
    obtain ⟨lcs3,vS3,scs3,hR3⟩:=hS3'
    have ho20':=hR3.row
    rcases hR3.hs with ⟨_,e,_⟩ | ⟨i8,g8,rfl,hi8,hro8,hl8⟩
    ·omega
    have hset : ∀ k : Nat,w9 (cI (O8 R'++List.replicate (5 - m) 0)) m [.int .i64 (k : Int)] = cI (O8 (R'++[k])++List.replicate (5 - (m+1)) 0):=fun k=>by
     rw[aJ7 _ _ _ (by rw[List.length_append,r7,List.length_replicate];omega),aw8,List.set_append,if_neg (by rw[r7];omega),r7,hrl,Nat.sub_self]
     obtain ⟨d,hd⟩ : ∃ d,5 - m = d+1:=⟨4 - m,by omega⟩
     rw[hd,show 5 - (m+1) = d by omega,List.replicate_succ]
     simp[O8]
    by_cases hbig : (cap : Int) < (ao6 L' t).length
    ·have hnone : an0 N S ss fs cap = none:=by
      rw[← hB,show 1002 - i = (1001 - i)+1 by omega,G4,hx]
      dsimp only
      rw[if_pos]
      have:=(aB3 (f:=fS N ss fs) x L (show m+1≤5 by omega)).length_le
      rw[hsucc] at this
      dsimp only at this
      omega
     rw[hnone]
     simp (disch:=omega) only[go_sem,ae3,h1,h4,h5,h6,h9,h10,h11,h63,ho11',ho4',ho20',hset,r7,hrl,hbig]
     rfl
    ·simp (disch:=omega) only[go_sem,ae3,h1,h4,h5,h6,h9,h10,h11,h63,ho11',ho4',ho20',hset,r7,hrl,hbig]
     refine ⟨_,?_,m+1,q11,by omega,rfl,by omega,?_,?_,hq11',by omega,?_,?_,rfl,rfl⟩
     ·omega
     ·rw[hsucc]
      exact hS3.slot (fun j k a1 _ _ _ _ _=>by rw[b9,if_neg a1]) (by omega)
     ·rw[hsucc]
      show (ao6 L' t).length≤cap
      omega
     ·rw[if_pos rfl,hsucc]
     ·intro j k hj hk
      rw[if_neg (by omega)]
      exact (old j k (by omega) (by omega) (by omega) (by omega) (by omega)).trans (hkp j k hj hk)
   ·have hme : m = 5:=by omega
    subst hme
    have hB' : bt7 (fS N ss fs) cap (1002 - (i+1)) (i+1) (H7 (fS N ss fs) x 5 L).1 (R++(H7 (fS N ss fs) x 5 L).2) = an0 N S ss fs cap:=by
     rw[← hB,show 1002 - i = (1002 - (i+1))+1 by omega,G4,hx]
     dsimp only
     rw[if_neg (by omega)]
    have hSub':=hSub
    obtain ⟨lcs',vS',scs',hR'⟩:=hSub'
    have ho20:=hR'.row
    have ho17:=hR'.leads
    have hltL : i < (H7 (fS N ss fs) x 5 L).1.length:=(List.getElem?_eq_some_iff.1 hx').1
    have hLi : (H7 (fS N ss fs) x 5 L).1.take (i+1) = L.take i++[x]:=by
     rw[List.take_add_one,hx']
     obtain ⟨tl,htl⟩:=hpre
     rw[← htl,List.take_append_of_le_length (by omega)]
     rfl
    generalize hL' : (H7 (fS N ss fs) x 5 L).1 = L' at *
    generalize hR2 : (H7 (fS N ss fs) x 5 L).2 = R' at *
    rcases hR'.hs with ⟨_,e,_⟩ | ⟨i6,g6,rfl,hi6,hro6,hl6⟩
    ·omega
    have hsl : i < scs'.length:=by omega
    have hget:=au1 (s:=1) hsl
    have hgi : (L'.map E0).getD i [] = E0 x:=by simp[List.getD,hx']
    have hH:=hR'.ni.2.1 i (by simpa using hltL)
    rw[hgi] at hH
    rcases hH with ⟨e,_,_⟩ | ⟨i7,g7,e7,hi7,hro7,_⟩
    ·exact absurd e (hR'.ne _ (J6 hsl _))
    rw[e7] at hget
    have ho9':=(hkp q9 9 hq9 (by decide)).trans ho9
    have ho4':=(hkp 0 4 (by omega) (by decide)).trans ho4
    have hvN':=hvN.keep (fun j hj=>hkp j 93 hj (by decide)) hnx'
    have hvA':=hvA.keep (fun j hj=>hkp j 106 hj (by decide)) hnx'
    have hacc:=fun rest=>ch6 N S F rest (E0 x) (by have:=aq6 x;omega)
    have hdec : decide (F ∈ E0 x) = x.getD F.toNat false:=by
     rw[Bool.eq_iff_iff,decide_eq_true_iff,R7]
     exact ⟨fun ⟨s,hs,hb⟩=>by rw[show F.toNat = s by omega];exact hb,fun hb=>⟨F.toNat,by omega,hb⟩⟩
    obtain ⟨r0,r1,r2,r3,r4,hRe⟩ : ∃ r0 r1 r2 r3 r4,R' = [r0,r1,r2,r3,r4]:=by
     match R',hrl with
     | [a,b,c,d,e],_=>exact ⟨a,b,c,d,e,rfl⟩
    have ho11 : o' (q11,11) = some (.row ⟨48,1,(q11,11),false,true,[.int .i64 r0,.int .i64 r1,.int .i64 r2,.int .i64 r3,.int .i64 r4]⟩):=by
     rw[ho11,hRe]
     rfl
    have hRR : cI (O8 (R++R')) = cI (O8 R)++[.int .i64 r0,.int .i64 r1,.int .i64 r2,.int .i64 r3,.int .i64 r4]:=by
     rw[aw8,P5,hRe]
     rfl
    have htkR : (cI (O8 R)).take (i * 5) = cI (O8 R):=j7 (by rw[l9,r7];exact hRl)
    have htkA : (cB (W4 F (L.take i))).take i = cB (W4 F (L.take i)):=j7 (by rw[A3,w7,List.length_take];omega)
    have hacs : W4 F (L.take i++[x]) = W4 F (L.take i)++[x.getD F.toNat false]:=by simp[W4]
    have htks : (scs'.take L'.length) = scs':=j7 (by omega)
    rcases hvN' with ⟨rfl,e1,e2⟩ | ⟨i8,g8,rfl,hi8,hro8,hl8⟩
    ·rcases hvA' with ⟨rfl,e3,e4⟩ | ⟨i9,g9,rfl,hi9,hro9,hl9⟩
     ·simp (disch:=omega) only[go_sem,ae3,h1,h4,h5,h6,h9,h10,h11,h63,ho11,ho9',ho4',ho20,ho17,hro6,hro7,hget,hacc,hdec]
      refine ⟨_,?_,i+1,L',R++R',q9,_,_,hB',rfl,by omega,by omega,hcap,by rw[List.length_append,hRl,hrl];omega,hrN,hSub.slot (fun j k a1 a2 a3 a4 a5 a6=>by simp[b9,a1,a2,a3,a4,a5,a6]) (by omega),by omega,by rw[if_pos rfl],.inr ⟨nx'+1,(nx'+1,93),by rw[e1],by omega,?_,?_⟩,.inr ⟨nx'+1,(nx'+1,106),by rw[e3],by omega,?_,?_⟩,rfl,rfl⟩
      ·omega
      ·rw[hRR,e2]
       simp (disch:=omega) only[go_sem]
      ·rw[l9,r7,List.length_append,hRl,hrl];omega
      ·rw[hLi,hacs,ah8,e4]
       simp (disch:=omega) only[go_sem]
       rfl
      ·rw[A3,w7,List.length_take];omega
     ·simp (disch:=omega) only[go_sem,ae3,h1,h4,h5,h6,h9,h10,h11,h63,ho11,ho9',ho4',ho20,ho17,hro6,hro7,hget,hacc,hdec,r7,w7,List.length_take,hro9,htkA]
      refine ⟨_,?_,i+1,L',R++R',q9,_,_,hB',rfl,by omega,by omega,hcap,by rw[List.length_append,hRl,hrl];omega,hrN,hSub.slot (fun j k a1 a2 a3 a4 a5 a6=>by simp[b9,a1,a2,a3,a4,a5,a6]) (by omega),by omega,by rw[if_pos rfl],.inr ⟨nx'+1,(nx'+1,93),by rw[e1],by omega,?_,?_⟩,.inr ⟨i9,(nx'+1,106),rfl,by omega,?_,?_⟩,rfl,rfl⟩
      ·omega
      ·rw[hRR,e2]
       simp (disch:=omega) only[go_sem]
      ·rw[l9,r7,List.length_append,hRl,hrl];omega
      ·rw[hLi,hacs,ah8]
       simp (disch:=omega) only[go_sem]
       rfl
      ·rw[A3,w7,List.length_take];omega
    ·rcases hvA' with ⟨rfl,e3,e4⟩ | ⟨i9,g9,rfl,hi9,hro9,hl9⟩
     ·simp (disch:=omega) only[go_sem,ae3,h1,h4,h5,h6,h9,h10,h11,h63,ho11,ho9',ho4',ho20,ho17,hro6,hro7,hget,hacc,hdec,r7,w7,List.length_take,hro8,htkR]
      refine ⟨_,?_,i+1,L',R++R',q9,_,_,hB',rfl,by omega,by omega,hcap,by rw[List.length_append,hRl,hrl];omega,hrN,hSub.slot (fun j k a1 a2 a3 a4 a5 a6=>by simp[b9,a1,a2,a3,a4,a5,a6]) (by omega),by omega,by rw[if_pos rfl],.inr ⟨i8,(nx'+1,93),rfl,by omega,?_,?_⟩,.inr ⟨nx'+1,(nx'+1,106),by rw[e3],by omega,?_,?_⟩,rfl,rfl⟩
      ·omega
      ·rw[hRR]
       simp (disch:=omega) only[go_sem]
      ·rw[l9,r7,List.length_append,hRl,hrl];omega
      ·rw[hLi,hacs,ah8,e4]
       simp (disch:=omega) only[go_sem]
       rfl
      ·rw[A3,w7,List.length_take];omega
     ·simp (disch:=omega) only[go_sem,ae3,h1,h4,h5,h6,h9,h10,h11,h63,ho11,ho9',ho4',ho20,ho17,hro6,hro7,hget,hacc,hdec,r7,w7,List.length_take,hro8,htkR,hro9,htkA]
      refine ⟨_,?_,i+1,L',R++R',q9,_,_,hB',rfl,by omega,by omega,hcap,by rw[List.length_append,hRl,hrl];omega,hrN,hSub.slot (fun j k a1 a2 a3 a4 a5 a6=>by simp[b9,a1,a2,a3,a4,a5,a6]) (by omega),by omega,by rw[if_pos rfl],.inr ⟨i8,(nx'+1,93),rfl,by omega,?_,?_⟩,.inr ⟨i9,(nx'+1,106),rfl,by omega,?_,?_⟩,rfl,rfl⟩
      ·omega
      ·rw[hRR]
       simp (disch:=omega) only[go_sem]
      ·rw[l9,r7,List.length_append,hRl,hrl];omega
      ·rw[hLi,hacs,ah8]
       simp (disch:=omega) only[go_sem]
       rfl
      ·rw[A3,w7,List.length_take];omega
  ·have hie : i = L.length:=by omega
   subst hie
   rcases hLs with ⟨rfl,e,_⟩ | ⟨i5,g5,rfl,hi5,hro5,hl5⟩
   ·omega
   rcases hvN with ⟨_,e,_⟩ | ⟨i8,g8,rfl,hi8,hro8,hl8⟩
   ·omega
   rcases hvA with ⟨_,e,_⟩ | ⟨i9,g9,rfl,hi9,hro9,hl9⟩
   ·omega
   rw[List.take_length] at hro9 hl9
   have hRn : (O8 R).length = L.length * 5:=by rw[r7];exact hRl
   have htkR : (cI (O8 R)).take (L.length * 5) = cI (O8 R):=j7 (by rw[l9];exact hRn)
   have hAn : (W4 F L).length = L.length:=w7 F L
   have htkA : (cB (W4 F L)).take L.length = cB (W4 F L):=j7 (by rw[A3];exact hAn)
   have hz5 : (rep [AV.int .i64 0,.int .i64 0,.int .i64 0,.int .i64 0,.int .i64 0] L.length).length = L.length * 5:=by
    rw[bZ2];simp
   have hzA : (cB (List.replicate L.length false)).drop L.length = []:=by simp[cB]
   have hz6 : (rep [AV.int .i64 0,.int .i64 0,.int .i64 0,.int .i64 0,.int .i64 0] L.length).drop (L.length * 5) = []:=List.drop_of_length_le (by omega)
   have hfin : an0 N S ss fs cap = some (L,R):=by
    rw[← hB,show 1002 - L.length = (1001 - L.length)+1 by omega,G4,List.getElem?_eq_none (Nat.le_refl _)]
   rw[hfin]
   simp (disch:=omega) only[go_sem,ae3,h1,h4,h5,h6,h9,h10,ho20,ho9,ho4,hro8,hro9,hRn,htkR,hAn,htkA,hz5,hzA,hz6,J5]
   show _ = AV.tup [.agg [.sl L.length (cI (O8 R)),.sl (W4 F L).length (cB (W4 F L))],.int .i64 0]
   rw[w7]
theorem db2 (N : Nat) (S F : Int) (ss fs) (hN : N≤1000) (hw : Wf N S F ss fs) (hss : ss.length≤1000) (cap : Nat) (hc1 : 1≤cap) (hc2 : cap≤1000) : Ok Tryz.prog 24 [Z0 N S F ss fs,.int .i64 cap] (bO6 F (an0 N S ss fs cap)) := by
 refine m7 (E:=EX md0 cC2) (cr:=bx8) cC3 ch3 mixed (k:=1003) Tryz.func24 (cC4 _) rfl (U2 (db1 N S F ss fs hN hw hss cap hc1 hc2) ?_)
 rintro u a o nx ⟨rfl,h⟩
 refine ⟨.inr rfl,?_⟩
 simp only[Tryz.f24,R4,V8,V9,aa7]
 cases hl : N8 Tryz.prog 37 (a 4) ⟨o,nx⟩ with
 | none =>
  rw[hl] at h
  cases hm : an0 N S ss fs cap with
  | none =>
   rw[hm] at h
   change AV.tup [AV.und,view o 1011 (a 5)] = _ at h
   simp[bO6,cC1] at h
  | some p =>
   rw[hm] at h
   change AV.tup [AV.und,view o 1011 (a 5)] = _ at h
   simp[bO6,S7] at h
 | some v =>
  rw[hl] at h
  rw[show N8 (EX md0 cC2).P 37 (a 4) ⟨o,nx⟩ = some v from hl]
  exact h
set_option maxRecDepth 20000
theorem aw9 {N : Nat} {S : Int} {ss fs} {cap : Nat} {L : List (List Bool)} {R : List Nat} (h : an0 N S ss fs cap = some (L,R)) : MidS (fS N ss fs) (t0S N S fs) L.length L R∧∀ b ∈ L,b.length = N :=
 ⟨bk7 (MidS.start _) h,bk9 (fun b=>b.length = N) (fun x m _=>ae2 N ss fs x m) (fun y hy=>by rw[List.mem_singleton.1 hy];exact ag8 N S fs) h⟩
theorem bn8 {N : Nat} {S : Int} {ss fs} {cap : Nat} {L : List (List Bool)} {R : List Nat} (h : an0 N S ss fs cap = some (L,R)) : 1≤L.length := by
 have:=(aw9 h).1.head
 exact (List.getElem?_eq_some_iff.1 this).1
theorem bg8 {N : Nat} {S F : Int} {ss fs} {cap : Nat} {L : List (List Bool)} {R : List Nat} (h : an0 N S ss fs cap = some (L,R)) (hL : L.length≤1000) : WfD L.length (O8 R) (W4 F L) := by
 have hm:=(aw9 h).1
 have hp:=bn8 h
 have hR:=hm.len
 refine ⟨⟨hp,by omega⟩,by rw[r7];omega,w7 F L,fun y hy=>?_⟩
 obtain ⟨q0,hq0,rfl⟩:=List.mem_map.1 hy
 obtain ⟨k,hk,hke⟩:=List.getElem_of_mem hq0
 obtain ⟨x,q,h1,h2,h3⟩:=hm.leads (k / 5) (k % 5) (by omega) (by omega)
 rw[show 5 * (k / 5)+k % 5 = k by omega] at h2
 have hq:=(List.getElem?_eq_some_iff.1 h3).1
 rw[List.getElem?_eq_getElem hk,hke] at h2
 injection h2 with h2
 subst h2
 show 0≤(q0 : Int)∧(q0 : Int) < _
 omega
def bg9 (args : List AV) (r : AV) : Prop := ∃ (N : Nat) (S F : Int) (ss : List St3) (fs : List (Int × Int)) (cap : Nat),N≤1000∧Wf N S F ss fs∧ss.length≤1000∧1≤cap∧cap≤1000∧args = [Z0 N S F ss fs,.int .i64 cap]∧r = bO6 F (an0 N S ss fs cap)
theorem bn9 : N2 bg9 := by
 rintro args r r' ⟨N,S,F,ss,fs,cap,_,_,_,_,_,rfl,rfl⟩ ⟨N',S',F',ss',fs',cap',_,_,_,_,_,h,rfl⟩
 simp only[List.cons.injEq,AV.int.injEq,true_and,and_true] at h
 obtain ⟨h0,h1⟩:=h
 obtain ⟨e1,e2,e3,e4,e5⟩:=aw5 h0
 have e1 : N = N':=by omega
 have e6 : cap = cap':=by omega
 rw[e1,e2,e3,e4,e5,e6]
theorem bO7 (args r) (h : bg9 args r) : Ok Tryz.prog 24 args r := by obtain ⟨N,S,F,ss,fs,cap,h1,h2,h3,h4,h5,rfl,rfl⟩ := h;exact db2 N S F ss fs h1 h2 h3 cap h4 h5
theorem ch7 {R : List Nat} {k q : Nat} (h : R[k]? = some q) : (O8 R).getD k 0 = (q : Int) := by
 unfold O8
 simp only[List.getD,List.getElem?_map,h]
 rfl
theorem bO8 {N : Nat} {S : Int} {ss fs} {cap : Nat} {L : List (List Bool)} {R : List Nat} (h : an0 N S ss fs cap = some (L,R)) : ∀ (w : List Int) (s : Nat) (b : List Bool),(∀ x ∈ w,0≤x∧x < 5)→L[s]? = some b→∃ k : Nat,goD (O8 R) (s : Int) w = (k : Int)∧L[k]? = some (w.foldl (aq7 N (u5 N fs) ss) b)
 | [],s,b,_,hs=>⟨s,rfl,hs⟩
 | m :: w,s,b,hw,hs=>by
  have hm:=hw m (List.mem_cons_self ..)
  obtain ⟨j,rfl⟩:=Int.eq_ofNat_of_zero_le hm.1
  have hlt:=(List.getElem?_eq_some_iff.1 hs).1
  obtain ⟨x,q,h1,h2,h3⟩:=(aw9 h).1.leads s j hlt (by omega)
  rw[hs] at h1
  injection h1 with h1
  subst h1
  obtain ⟨k,e1,e2⟩:=bO8 h w q _ (fun x hx=>hw x (List.mem_cons_of_mem _ hx)) h3
  refine ⟨k,?_,e2⟩
  rw[goD,if_neg (by omega),← e1]
  have : ((s : Int)).toNat * 5+((j : Int)).toNat = 5 * s+j:=by omega
  rw[this,ch7 h2]
theorem db3 {N : Nat} {S F : Int} {ss fs} {cap : Nat} {L : List (List Bool)} {R : List Nat} (h : an0 N S ss fs cap = some (L,R)) (w : List Int) (hw : ∀ x ∈ w,0≤x∧x < 5) : ∃ k : Nat,Z1 L.length (O8 R) 0 w = (k : Int)∧k < L.length∧(W4 F L).getD k false = cX1 N S F ss fs w := by
 have hp:=bn8 h
 obtain ⟨k,h1,h2⟩:=bO8 h w 0 _ hw (aw9 h).1.head
 refine ⟨k,?_,(List.getElem?_eq_some_iff.1 h2).1,?_⟩
 ·unfold Z1
  rw[if_pos (by omega)]
  exact h1
 ·unfold W4 cX1 bA9
  simp only[List.getD,List.getElem?_map,h2]
  rfl
end Go.Proofs.YtpmjpogcaglphaaGreatDoor.A
