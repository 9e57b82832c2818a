/- Machines of one way out of machines of many: the document's same, find, Same. -/
import Derived.Test.YtpmjpogcaglphaaGreatDoorMLMCompiles24
set_option linter.unusedVariables false
set_option linter.unusedSimpArgs false
set_option linter.unnecessarySimpa false
namespace Go.Proofs.YtpmjpogcaglphaaGreatDoor.A
open Go
set_option maxRecDepth 20000
theorem df5 (X) : d9 (EX md0 X) (fun _=>none) 2 Tryz.f88 = true := by kernel_rfl
theorem cF6 (x y : List Bool) (hl : x.length = y.length) (hx : x.length≤100000) : Ok Tryz.prog 88 [slB x,slB y] (.bool (decide (x = y))) := by
 refine m7 (E:=EX md0 (fun _ _=>none)) (cr:=noR) (t6 _) (q7 _) mixed (k:=x.length+1) Tryz.func88 (df5 _) rfl ?_
 simp only[Tryz.f88,Option.getD_some]
 simp (disch:=omega) only[go_sem]
 refine o9 (fun m a o nx=>∃ i,i≤x.length∧m = x.length - i∧x.take i = y.take i∧a 0 = slB x∧a 1 = slB y∧a 5 = .int .i64 i) x.length (by omega) ⟨0,by omega,by omega,rfl,by simp (disch:=omega) only[go_sem],by simp (disch:=omega) only[go_sem],by simp (disch:=omega) only[go_sem]⟩ ?_
 rintro m a o nx ⟨i,hi,rfl,htk,h0,h1,h5⟩
 by_cases hlt : i < x.length
 ·have hat:=L3 (s:=1) hlt
  have hat2:=L3 (l:=y) (i:=i) (s:=1) (by omega)
  have hs1:=q8 hlt false
  have hs2:=q8 (l:=y) (i:=i) (by omega) false
  generalize hp : x.getD i false = p at hat hs1
  generalize hq : y.getD i false = q at hat2 hs2
  by_cases hpq : p = q
  ·have hbe : (p == q) = true:=by rw[hpq];exact beq_self_eq_true _
   simp (disch:=omega) only[go_sem,h0,h1,h5,hat,hat2,hbe]
   exact ⟨_,by omega,i+1,by omega,rfl,by rw[hs1,hs2,htk,hpq],rfl⟩
  ·have hbe : (p == q) = false:=beq_false_of_ne hpq
   rw[decide_eq_false (fun e=>hpq (by rw[← hp,← hq,e]))]
   simp (disch:=omega) only[go_sem,h0,h1,h5,hat,hat2,hbe]
 ·rw[decide_eq_true (by rw[← List.take_of_length_le (l:=x) (i:=i) (by omega),htk,List.take_of_length_le (by omega)])]
  simp (disch:=omega) only[go_sem,h0,h1,h5]
def RSm (args : List AV) (r : AV) : Prop := ∃ x y : List Bool,x.length = y.length∧x.length≤100000∧args = [slB x,slB y]∧r = .bool (decide (x = y))
theorem df6 : N2 RSm := by
 rintro args r r' ⟨x,y,_,_,rfl,rfl⟩ ⟨x',y',_,_,h,rfl⟩
 simp only[List.cons.injEq,and_true] at h
 rw[aO5 h.1,aO5 h.2]
theorem df7 (args r) (h : RSm args r) : Ok Tryz.prog 88 args r := by obtain ⟨x,y,h1,h2,rfl,rfl⟩ := h;exact cF6 x y h1 h2
noncomputable def XSm : FuncId→List AV→Option AV := t7 [(88,D9 RSm)]
theorem df8 : s6 Tryz.prog XSm := l8 (t6 _) (n8 df7)
theorem df9 {x y : List Bool} (h1 : x.length = y.length) (h2 : x.length≤100000) : XSm 88 [slB x,slB y] = some (.bool (decide (x = y))) := o8 (R := RSm) df6 ⟨x,y,h1,h2,rfl,rfl⟩
def aZ1 (L : List (List Bool)) (t : List Bool) : Int := if t ∈ L then (L.idxOf t : Int) else -1
theorem cj6 (X) : d9 (EX md0 X) (fun _=>none) 2 Tryz.f62 = true := by kernel_rfl
theorem aE9 {L : List (List Bool)} {i : Nat} (h : i < L.length) : N4 false 1 ((L.map slB).drop i) = some (slB (L.getD i [])) := by
 rw[S6 (by simpa using h)]
 simp[List.getD,h]
theorem cF7 (L : List (List Bool)) (t : List Bool) (hL : ∀ b ∈ L,b.length = t.length) (h1 : L.length≤100000) (h2 : t.length≤100000) : Ok Tryz.prog 62 [.sl L.length (L.map slB),slB t] (.int .i64 (aZ1 L t)) := by
 refine m7 (E:=EX md0 XSm) (cr:=noR) df8 (q7 _) mixed (k:=L.length+1) Tryz.func62 (cj6 _) rfl ?_
 simp only[Tryz.f62,Option.getD_some]
 simp (disch:=omega) only[go_sem]
 refine o9 (fun m a o nx=>∃ i,i≤L.length∧m = L.length - i∧t ∉ L.take i∧a 0 = .sl L.length (L.map slB)∧a 1 = slB t∧a 5 = .int .i64 i) L.length (by omega) ⟨0,by omega,by omega,by simp,by simp (disch:=omega) only[go_sem],by simp (disch:=omega) only[go_sem],by simp (disch:=omega) only[go_sem]⟩ ?_
 rintro m a o nx ⟨i,hi,rfl,hni,h0,h1',h5⟩
 by_cases hlt : i < L.length
 ·have hat:=aE9 hlt
  have hmem:=J6 hlt []
  have htk:=q8 hlt []
  generalize hp : L.getD i [] = b at hat hmem htk
  have hsm:=df9 (x:=b) (y:=t) (hL b hmem) (by rw[hL b hmem];exact h2)
  by_cases hbt : b = t
  ·rw[decide_eq_true hbt] at hsm
   have hidx : L.idxOf t = i:=by
    have e : L = L.take i++t :: L.drop (i+1):=by
     have : L.drop i = b :: L.drop (i+1):=by
      rw[List.drop_eq_getElem_cons hlt]
      congr 1
      rw[← hp];simp[List.getD,hlt]
     rw[← hbt,← this,List.take_append_drop]
    rw[e,List.idxOf_append,if_neg hni,List.idxOf_cons_self,List.length_take]
    omega
   have hf : aZ1 L t = i:=by
    unfold aZ1
    rw[if_pos (hbt ▸ hmem),hidx]
   rw[hf]
   simp (disch:=omega) only[go_sem,h0,h1',h5,hat,hsm]
  ·rw[decide_eq_false hbt] at hsm
   simp (disch:=omega) only[go_sem,h0,h1',h5,hat,hsm]
   refine ⟨_,by omega,i+1,by omega,rfl,?_,rfl⟩
   rw[htk,List.mem_append,List.mem_singleton]
   rintro (h | h)
   ·exact hni h
   ·exact hbt h.symm
 ·rw[List.take_of_length_le (by omega)] at hni
  have hf : aZ1 L t = -1:=if_neg hni
  rw[hf]
  simp (disch:=omega) only[go_sem,h0,h1',h5]
def cj7 (args : List AV) (r : AV) : Prop := ∃ (L : List (List Bool)) (t : List Bool),(∀ b ∈ L,b.length = t.length)∧L.length≤100000∧t.length≤100000∧args = [.sl L.length (L.map slB),slB t]∧r = .int .i64 (aZ1 L t)
theorem cj8 {x y : List (List Bool)} (h : x.map slB = y.map slB) : x = y := List.map_inj_right (fun a b h=>aO5 h) |>.1 h
theorem cj9 : N2 cj7 := by
 rintro args r r' ⟨L,t,_,_,_,rfl,rfl⟩ ⟨L',t',_,_,_,h,rfl⟩
 simp only[List.cons.injEq,AV.sl.injEq,and_true] at h
 rw[cj8 h.1.2,ah9 h.2.2]
theorem ck0 (args r) (h : cj7 args r) : Ok Tryz.prog 62 args r := by obtain ⟨L,t,h1,h2,h3,rfl,rfl⟩ := h;exact cF7 L t h1 h2 h3
set_option maxRecDepth 20000
noncomputable def XRS : FuncId→List AV→Option AV := t7 [(60,D9 R43),(61,D9 R44),(62,D9 cj7)]
theorem dg0 : s6 Tryz.prog XRS := l8 (l8 (l8 (t6 _) (n8 ck0)) (n8 cY1)) (n8 cX9)
theorem cF8 {N : Nat} {S F : Int} {ss fs} (hw : Wf N S F ss fs) : XRS 60 [Z0 N S F ss fs] = some (slB (C5 N (u5 N fs) [S])) := o8 (R := R43) cX8 ⟨_,_,_,_,_,hw,rfl,rfl⟩
theorem ck1 {N : Nat} {S F : Int} {ss fs} (hw : Wf N S F ss fs) (b : List Bool) (hb : b.length = N) (m : Int) : XRS 61 [Z0 N S F ss fs,slB b,.int .i64 m] = some (slB (aq7 N (u5 N fs) ss b m)) := o8 (R := R44) cY0 ⟨_,_,_,_,_,_,_,hw,hb,rfl,rfl⟩
theorem ck2 (L : List (List Bool)) (t : List Bool) (hL : ∀ b ∈ L,b.length = t.length) (h1 : L.length≤100000) (h2 : t.length≤100000) : XRS 62 [.sl L.length (L.map slB),slB t] = some (.int .i64 (aZ1 L t)) := o8 (R := cj7) cj9 ⟨_,_,hL,h1,h2,rfl,rfl⟩
@[go_sem] theorem dg1 (o d) (L : List (List Bool)) : (L.map slB).map (view o d) = L.map slB := by simp [Function.comp_def, be1]
@[go_sem] theorem dr5 (L : List (List Bool)) : (L.map slB).length = L.length := by simp
@[go_sem] theorem dr6 (L : List (List Bool)) : (L.map slB).take L.length = L.map slB := j7 (by simp)
def FrR (ks : List Nat) (n : Nat) (o o' : Ob) : Prop := ∀ j k,j < n→k ∈ ks→o' (j,k) = o (j,k)
theorem FrR.upd {ks : List Nat} {n : Nat} {o o' : Ob} {j d : Nat} {x : AObj} (h : FrR ks n o o') (hj : n≤j ∨ d ∉ ks) : FrR ks n o (A.upd o' (j,d) x) := fun i k hi hk=>by
 have e : ¬ (i,k) = (j,d):=fun hc=>by
  injection hc with h1 h2
  rcases hj with hj | hj
  ·omega
  ·exact hj (h2 ▸ hk)
 rw[A.upd,if_neg e]
 exact h i k hi hk
def bB1 : Nat→Option (List (Nat × Nat))
 | 19=>some [(1,10)]
 | _=>none
theorem dg2 (X) : d9 (EX md0 X) bB1 2 Tryz.f27 = true := by kernel_rfl
set_option maxHeartbeats 4000000 in
theorem cF9 (N : Nat) (S F : Int) (ss fs) (hw : Wf N S F ss fs) (cap : Nat) (hc1 : 1≤cap) (hc2 : cap≤1000) :
  WP (EX md0 XRS) noR 1003 bB1 (Tryz.f27.body.getD .skip) (A2 [Z0 N S F ss fs,.int .i64 cap]) (fun _=>none) 0 (fun u a o nx=>u = .ret∧view o p9 (.tup [(N8 Tryz.prog 37 (a 4) ⟨o,nx⟩).getD .und,a 5]) = bO6 F (an0 N S ss fs cap)):=by
 have hS:=hw.s
 have hF:=hw.f
 have hNn:=hw.n
 have hbeg:=cF8 hw
 have hstep:=ck1 hw
 simp only[Tryz.f27,Option.getD_some]
 simp (disch:=omega) only[go_sem,bB1,hbeg]
 refine o9 (fun mm a o nx=>∃ i L R g vN vA,bt7 (fS N ss fs) cap (1002 - i) i L R = an0 N S ss fs cap∧mm = 1002 - i∧i≤L.length∧1≤L.length∧L.length≤cap∧R.length = i * 5∧(∀ b ∈ L,b.length = N)∧3≤nx∧o (1,15) = some (.row ⟨35,1,g,false,true,L.map slB⟩)∧o (2,7) = some (.row ⟨37,1,(2,7),false,true,[vN,vA]⟩)∧HS 48 5 55 o nx vN i (cI (O8 R))∧HS 4 1 68 o nx vA i (cB (W4 F (L.take i)))∧o (0,4) = some (.row ⟨37,1,(0,4),false,true,[.nil,.nil]⟩)∧o (0,2) = some (.row ⟨62,1,(0,2),false,true,[.int .i64 N,.int .i64 S,.int .i64 F,.sl ss.length (cS ss),.sl fs.length (cP fs)]⟩)∧a 1 = .int .i64 cap∧a 2 = .ptr (0,2) (0,2) 0∧a 4 = .ptr (0,4) (0,4) 0∧a 5 = .int .i64 0∧a 6 = .ref (1,15) g 0 L.length∧a 7 = .ptr (2,7) (2,7) 0∧a 8 = .int .i64 i) 1002 (by omega)
  ⟨0,[t0S N S fs],[],(1,15),.nil,.nil,rfl,by omega,by simp,by simp,by simp;omega,rfl,fun b hb=>by rw[List.mem_singleton.1 hb];exact ag8 N S fs,by omega,?_,by simp (disch:=omega) only[go_sem],HS.nil,HS.nil,by simp (disch:=omega) only[go_sem],by simp (disch:=omega) only[go_sem],by simp (disch:=omega) only[go_sem],by simp (disch:=omega) only[go_sem],by simp (disch:=omega) only[go_sem],by simp (disch:=omega) only[go_sem],?_,by simp (disch:=omega) only[go_sem],by simp (disch:=omega) only[go_sem]⟩ ?_
 ·simp (disch:=omega) only[go_sem]
  rfl
 ·simp (disch:=omega) only[go_sem]
 rintro mm a o nx ⟨i,L,R,g,vN,vA,hB,rfl,hi,hL1,hLc,hRl,hLN,hnx,ho15,ho7,hvN,hvA,ho4,ho2,h1,h2,h4,h5,h6,h7,h8⟩
 by_cases hlt : i < L.length
 ·obtain ⟨x,hx⟩ : ∃ x,L[i]? = some x:=⟨_,List.getElem?_eq_getElem hlt⟩
  have hxN:=hLN x (List.mem_of_getElem? hx)
  simp (disch:=omega) only[go_sem,bB1,h1,h2,h4,h5,h6,h7,h8,ho15]
  refine o9 (fun mm a o' nx'=>∃ m g' q9,m≤5∧mm = 5 - m∧nx≤nx'∧o' (1,15) = some (.row ⟨35,1,g',false,true,(H7 (fS N ss fs) x m L).1.map slB⟩)∧(H7 (fS N ss fs) x m L).1.length≤cap∧nx≤q9∧q9 < nx'∧o' (q9,9) = some (.row ⟨48,1,(q9,9),false,true,cI (O8 (H7 (fS N ss fs) x m L).2++List.replicate (5 - m) 0)⟩)∧FrR [7,55,68,4,2] nx o o' ∧
   a 1 = .int .i64 cap∧a 2 = .ptr (0,2) (0,2) 0∧a 4 = .ptr (0,4) (0,4) 0∧a 5 = .int .i64 0∧a 6 = .ref (1,15) g' 0 (H7 (fS N ss fs) x m L).1.length∧a 7 = .ptr (2,7) (2,7) 0∧a 8 = .int .i64 i∧a 9 = .ptr (q9,9) (q9,9) 0∧a 10 = .int .i64 m) 5 (by omega)
   ⟨0,g,nx+1,by omega,by omega,by omega,by rw[B6 (by omega)];exact ho15,hLc,by omega,by omega,d8 _ _ _,FrR.upd (fun _ _ _ _=>rfl) (.inl (by omega)),by simp (disch:=omega) only[go_sem,h1],by simp (disch:=omega) only[go_sem,h2],by simp (disch:=omega) only[go_sem,h4],by simp (disch:=omega) only[go_sem,h5],by simp (disch:=omega) only[go_sem,h6];rfl,by simp (disch:=omega) only[go_sem,h7],by simp (disch:=omega) only[go_sem,h8],by simp (disch:=omega) only[go_sem],by simp (disch:=omega) only[go_sem]⟩ ?_
  clear h1 h2 h4 h5 h6 h7 h8 ho15
  rintro mm a o' nx' ⟨m,g',q9,hm,rfl,hnx',ho15,hcap,hq9',hq9,ho9,hkp,h1,h2,h4,h5,h6,h7,h8,h9,h10⟩
  have hpre:=aw1 (f:=fS N ss fs) x m L
  have hrl:=ag3 (f:=fS N ss fs) x m L
  have hrN:=aO0 (f:=fS N ss fs) (fun b=>b.length = N) x (fun m=>ae2 N ss fs x m) m hLN
  have hx':=aN8 hpre hx
  have hsucc:=aY2 (fS N ss fs) x m L
  have ho4':=(hkp 0 4 (by omega) (by decide)).trans ho4
  have ho2':=(hkp 0 2 (by omega) (by decide)).trans ho2
  have ho7':=(hkp 2 7 (by omega) (by decide)).trans ho7
  by_cases hm5 : m < 5
  ·have hltL : i < (H7 (fS N ss fs) x m L).1.length:=(List.getElem?_eq_some_iff.1 hx').1
   obtain ⟨t,ht⟩ : ∃ t,t = fS N ss fs x m:=⟨_,rfl⟩
   have hst : aq7 N (u5 N fs) ss x (m : Int) = t:=ht.symm
   have htl : t.length = N:=by rw[ht];exact ae2 N ss fs x m
   rw[← ht] at hsucc
   have hstp:=hstep x hxN m
   rw[hst] at hstp
   generalize hL' : (H7 (fS N ss fs) x m L).1 = L' at *
   generalize hR2 : (H7 (fS N ss fs) x m L).2 = R' at *
   have hget:=aE9 hltL
   rw[show L'.getD i [] = x by simp[List.getD,hx']] at hget
   have hfd:=ck2 L' t (fun b hb=>by rw[hrN b hb,htl]) (by omega) (by omega)
   have hset : ∀ k : Nat,w9 (cI (O8 R'++List.replicate (5 - m) 0)) m [.int .i64 (k : Int)] = cI (O8 (R'++[k])++List.replicate (5 - (m+1)) 0):=fun k=>by
    rw[aJ7 _ _ _ (by rw[List.length_append,r7,List.length_replicate];omega),aw8,List.set_append,if_neg (by rw[r7];omega),r7,hrl,Nat.sub_self]
    obtain ⟨d,hd⟩ : ∃ d,5 - m = d+1:=⟨4 - m,by omega⟩
    rw[hd,show 5 - (m+1) = d by omega,List.replicate_succ]
    simp[O8]
   by_cases htm : t ∈ L'
   ·rw[show aZ1 L' t = (L'.idxOf t : Int) from if_pos htm] at hfd
    rw[bF5 L' t htm] at hsucc
    simp (disch:=omega) only[go_sem,bB1,h1,h2,h4,h5,h6,h7,h8,h9,h10,ho15,ho9,ho2',hget,hstp,hfd,hset,r7,hrl]
    refine ⟨_,?_,m+1,g',q9,by omega,rfl,by omega,by rw[hsucc],by rw[hsucc];exact hcap,hq9',by omega,by rw[if_pos rfl,hsucc],hkp.upd (.inl hq9'),by rw[hsucc],rfl,rfl⟩
    ·omega
   ·rw[show aZ1 L' t = -1 from if_neg htm] at hfd
    have hml : (ao6 L' t).length = L'.length+1:=by rw[al8 L' t htm];simp
    have hmm : (ao6 L' t).map slB = L'.map slB++[slB t]:=by rw[al8 L' t htm];simp
    have hidx : L'.idxOf t = L'.length:=List.idxOf_eq_length htm
    rw[hidx] at hsucc
    by_cases hbig : (cap : Int)≤L'.length
    ·have hnone : an0 N S ss fs cap = none:=by
      rw[← hB,show 1002 - i = (1001 - i)+1 by omega,G4,hx]
      dsimp only
      rw[if_pos]
      have:=(aB3 (f:=fS N ss fs) x L (show m+1≤5 by omega)).length_le
      rw[hsucc] at this
      dsimp only at this
      omega
     rw[hnone]
     simp (disch:=omega) only[go_sem,bB1,h1,h2,h4,h5,h6,h7,h8,h9,h10,ho15,ho9,ho2',ho4',hget,hstp,hfd,hset,r7,hrl,hbig]
     rfl
    ·simp (disch:=omega) only[go_sem,bB1,h1,h2,h4,h5,h6,h7,h8,h9,h10,ho15,ho9,ho2',ho4',hget,hstp,hfd,hset,r7,hrl,hbig]
     refine ⟨_,?_,m+1,_,q9,by omega,rfl,by omega,by rw[hsucc];rw[hmm],by rw[hsucc];show (ao6 L' t).length≤cap;omega,hq9',by omega,by rw[if_pos rfl,hsucc],((hkp.upd (.inl (by omega))).upd (.inr (by decide))).upd (.inl hq9'),by rw[hsucc];show _ = AV.ref _ _ 0 (ao6 L' t).length;rw[hml],rfl,rfl⟩
     omega
  ·have hme : m = 5:=by omega
   subst hme
   have hB' : bt7 (fS N ss fs) cap (1002 - (i+1)) (i+1) (H7 (fS N ss fs) x 5 L).1 (R++(H7 (fS N ss fs) x 5 L).2) = an0 N S ss fs cap:=by
    rw[← hB,show 1002 - i = (1002 - (i+1))+1 by omega,G4,hx]
    dsimp only
    rw[if_neg (by omega)]
   have hltL : i < (H7 (fS N ss fs) x 5 L).1.length:=(List.getElem?_eq_some_iff.1 hx').1
   have hLi : (H7 (fS N ss fs) x 5 L).1.take (i+1) = L.take i++[x]:=by
    rw[List.take_add_one,hx']
    obtain ⟨tl,htl⟩:=hpre
    rw[← htl,List.take_append_of_le_length (by omega)]
    rfl
   generalize hL' : (H7 (fS N ss fs) x 5 L).1 = L' at *
   generalize hR2 : (H7 (fS N ss fs) x 5 L).2 = R' at *
   have hget:=aE9 hltL
   rw[show L'.getD i [] = x by simp[List.getD,hx']] at hget
   have hvN':=hvN.keep (fun j hj=>hkp j 55 hj (by decide)) hnx'
   have hvA':=hvA.keep (fun j hj=>hkp j 68 hj (by decide)) hnx'
   have hatF:=L3 (l:=x) (i:=F.toNat) (s:=1) (by omega)
   obtain ⟨r0,r1,r2,r3,r4,hRe⟩ : ∃ r0 r1 r2 r3 r4,R' = [r0,r1,r2,r3,r4]:=by
    match R',hrl with
    | [a,b,c,d,e],_=>exact ⟨a,b,c,d,e,rfl⟩
   have ho9 : o' (q9,9) = some (.row ⟨48,1,(q9,9),false,true,[.int .i64 r0,.int .i64 r1,.int .i64 r2,.int .i64 r3,.int .i64 r4]⟩):=by
    rw[ho9,hRe]
    rfl
   have hRR : cI (O8 (R++R')) = cI (O8 R)++[.int .i64 r0,.int .i64 r1,.int .i64 r2,.int .i64 r3,.int .i64 r4]:=by
    rw[aw8,P5,hRe]
    rfl
   have htkR : (cI (O8 R)).take (i * 5) = cI (O8 R):=j7 (by rw[l9,r7];exact hRl)
   have htkA : (cB (W4 F (L.take i))).take i = cB (W4 F (L.take i)):=j7 (by rw[A3,w7,List.length_take];omega)
   have hacs : W4 F (L.take i++[x]) = W4 F (L.take i)++[x.getD F.toNat false]:=by simp[W4]
   have hokA:=hvA'.ok
   rcases hvN' with ⟨rfl,e1,e2⟩ | ⟨i8,g8,rfl,hi8,hro8,hl8⟩
   ·rcases hvA' with ⟨rfl,e3,e4⟩ | ⟨i9,g9,rfl,hi9,hro9,hl9⟩
    ·simp (disch:=omega) only[go_sem,bB1,h1,h2,h4,h5,h6,h7,h8,h9,h10,ho15,ho9,ho2',ho4',ho7',hget,hatF,hokA]
     refine ⟨_,?_,i+1,L',R++R',g',_,_,hB',rfl,by omega,by omega,hcap,by rw[List.length_append,hRl,hrl];omega,hrN,rfl,rfl,.inr ⟨nx'+1,(nx'+1,55),by rw[e1],by omega,?_,?_⟩,.inr ⟨nx'+1+1,(nx'+1+1,68),by rw[e3],by omega,?_,?_⟩,rfl,rfl⟩
     ·omega
     ·rw[hRR,e2]
      simp (disch:=omega) only[go_sem]
     ·rw[l9,r7,List.length_append,hRl,hrl];omega
     ·rw[hLi,hacs,ah8,e4]
      simp (disch:=omega) only[go_sem]
      rfl
     ·rw[A3,w7,List.length_take];omega
    ·simp (disch:=omega) only[go_sem,bB1,h1,h2,h4,h5,h6,h7,h8,h9,h10,ho15,ho9,ho2',ho4',ho7',hget,hatF,hokA,r7,w7,List.length_take,hro9,htkA]
     refine ⟨_,?_,i+1,L',R++R',g',_,_,hB',rfl,by omega,by omega,hcap,by rw[List.length_append,hRl,hrl];omega,hrN,rfl,rfl,.inr ⟨nx'+1,(nx'+1,55),by rw[e1],by omega,?_,?_⟩,.inr ⟨i9,(nx'+1+1,68),rfl,by omega,?_,?_⟩,rfl,rfl⟩
     ·omega
     ·rw[hRR,e2]
      simp (disch:=omega) only[go_sem]
     ·rw[l9,r7,List.length_append,hRl,hrl];omega
     ·rw[hLi,hacs,ah8]
      simp (disch:=omega) only[go_sem]
      rfl
     ·rw[A3,w7,List.length_take];omega
   ·rcases hvA' with ⟨rfl,e3,e4⟩ | ⟨i9,g9,rfl,hi9,hro9,hl9⟩
    ·simp (disch:=omega) only[go_sem,bB1,h1,h2,h4,h5,h6,h7,h8,h9,h10,ho15,ho9,ho2',ho4',ho7',hget,hatF,hokA,r7,w7,List.length_take,hro8,htkR]
     refine ⟨_,?_,i+1,L',R++R',g',_,_,hB',rfl,by omega,by omega,hcap,by rw[List.length_append,hRl,hrl];omega,hrN,rfl,rfl,.inr ⟨i8,(nx'+1,55),rfl,by omega,?_,?_⟩,.inr ⟨nx'+1+1,(nx'+1+1,68),by rw[e3],by omega,?_,?_⟩,rfl,rfl⟩
     ·omega
     ·rw[hRR]
      simp (disch:=omega) only[go_sem]
     ·rw[l9,r7,List.length_append,hRl,hrl];omega
     ·rw[hLi,hacs,ah8,e4]
      simp (disch:=omega) only[go_sem]
      rfl
     ·rw[A3,w7,List.length_take];omega
    ·simp (disch:=omega) only[go_sem,bB1,h1,h2,h4,h5,h6,h7,h8,h9,h10,ho15,ho9,ho2',ho4',ho7',hget,hatF,hokA,r7,w7,List.length_take,hro8,htkR,hro9,htkA]
     refine ⟨_,?_,i+1,L',R++R',g',_,_,hB',rfl,by omega,by omega,hcap,by rw[List.length_append,hRl,hrl];omega,hrN,rfl,rfl,.inr ⟨i8,(nx'+1,55),rfl,by omega,?_,?_⟩,.inr ⟨i9,(nx'+1+1,68),rfl,by omega,?_,?_⟩,rfl,rfl⟩
     ·omega
     ·rw[hRR]
      simp (disch:=omega) only[go_sem]
     ·rw[l9,r7,List.length_append,hRl,hrl];omega
     ·rw[hLi,hacs,ah8]
      simp (disch:=omega) only[go_sem]
      rfl
     ·rw[A3,w7,List.length_take];omega
 ·have hie : i = L.length:=by omega
  subst hie
  rw[List.take_length] at hvA
  have hfin : an0 N S ss fs cap = some (L,R):=by
   rw[← hB,show 1002 - L.length = (1001 - L.length)+1 by omega,G4,List.getElem?_eq_none (Nat.le_refl _)]
  rw[hfin]
  have e1 : ∀ y,view (upd o (0,4) y) 1010 vN = .sl L.length (cI (O8 R)):=fun y=>by rw[(hvN.keep (o':=upd o (0,4) y) (nx':=nx) (fun i hi=>by simp[b9]) (Nat.le_refl _)).view 1009,X5]
  have e2 : ∀ y,view (upd o (0,4) y) 1010 vA = .sl L.length (cB (W4 F L)):=fun y=>by rw[(hvA.keep (o':=upd o (0,4) y) (nx':=nx) (fun i hi=>by simp[b9]) (Nat.le_refl _)).view 1009,be2]
  have e3:=hvN.ok
  have e4:=hvA.ok
  simp (disch:=omega) only[go_sem,bB1,h1,h2,h4,h5,h6,h7,h8,ho15,ho7,ho4,e1,e2,e3,e4]
  show _ = AV.tup [.agg [.sl L.length (cI (O8 R)),.sl (W4 F L).length (cB (W4 F L))],.int .i64 0]
  rw[w7]
theorem cG0 (N : Nat) (S F : Int) (ss fs) (hw : Wf N S F ss fs) (cap : Nat) (hc1 : 1≤cap) (hc2 : cap≤1000) : Ok Tryz.prog 27 [Z0 N S F ss fs,.int .i64 cap] (bO6 F (an0 N S ss fs cap)) := by
 refine m7 (E:=EX md0 XRS) (cr:=noR) dg0 (q7 _) mixed (k:=1003) Tryz.func27 (dg2 _) rfl (U2 (cF9 N S F ss fs hw cap hc1 hc2) ?_)
 rintro u a o nx ⟨rfl,h⟩
 refine ⟨.inr rfl,?_⟩
 simp only[Tryz.f27,R4,V8,V9,aa7]
 cases hl : N8 Tryz.prog 37 (a 4) ⟨o,nx⟩ with
 | none =>
  rw[hl] at h
  cases hm : an0 N S ss fs cap with
  | none =>
   rw[hm] at h
   change AV.tup [AV.und,view o 1011 (a 5)] = _ at h
   simp[bO6,cC1] at h
  | some p =>
   rw[hm] at h
   change AV.tup [AV.und,view o 1011 (a 5)] = _ at h
   simp[bO6,S7] at h
 | some v =>
  rw[hl] at h
  rw[show N8 (EX md0 XRS).P 37 (a 4) ⟨o,nx⟩ = some v from hl]
  exact h
end Go.Proofs.YtpmjpogcaglphaaGreatDoor.A
