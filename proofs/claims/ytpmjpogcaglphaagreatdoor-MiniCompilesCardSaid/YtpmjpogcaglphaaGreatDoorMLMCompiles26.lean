/- Words that machines take, plainly: runs of them, states that are led to. -/
import Derived.Test.YtpmjpogcaglphaaGreatDoorMLMCompiles25
import Derived.Test.YtpmjpogcaglphaaGreatDoorMLMCompiles7
set_option linter.unusedVariables false
set_option linter.unusedSimpArgs false
set_option linter.unnecessarySimpa false
namespace Go.Proofs.YtpmjpogcaglphaaGreatDoor.A
open Go
set_option maxRecDepth 20000
theorem WfD.okD {n N A} (h : WfD n N A) : OkD N A := ⟨by have := h.sz;have := h.a;omega,fun i hi=>by rw[h.a] at hi;have := h.get hi;rw[h.a];exact this⟩
theorem OkD.wf {N A} (h : OkD N A) (hl : N.length = 5 * A.length) (hm : A.length≤2000) : WfD A.length N A := ⟨⟨h.l,hm⟩,hl,rfl,fun x hx=>by
 obtain ⟨i,hi,rfl⟩:=List.getElem_of_mem hx
 have:=h.e i (by omega)
 simpa [List.getD,hi] using this⟩
theorem bP6 {n N A} (h : WfD n N A) : WfD (W5 N A).length (an2 N A) (W5 N A) := (cC8 h.okD).wf (ci0 h.okD) (by have := (cr0 h.okD).2;have := h.a;have := h.sz;omega)
def av6 (w : List Int) : Prop := ∀ x ∈ w,0≤x∧x < 5
theorem bP7 {w : List Int} (h : av6 w) : ∀ m ∈ w.map Int.toNat,m < 5 := fun m hm=>by
 obtain ⟨x,hx,rfl⟩:=List.mem_map.1 hm
 have:=h x hx
 omega
theorem bP8 {n N A} (h : WfD n N A) : ∀ (w : List Int) (s : Int),av6 w→0≤s→s < (n : Int)→goD N s w = (goS N s.toNat (w.map Int.toNat) : Nat)
 | [],s,_,h0,_=>by rw[goD,List.map_nil,goS];omega
 | m :: w,s,hw,h0,h1=>by
  have hm:=hw m (List.mem_cons_self ..)
  rw[goD,if_neg (by omega),List.map_cons,goS]
  have:=h.get (k:=s.toNat * 5+m.toNat) (by omega)
  exact bP8 h w _ (fun x hx=>hw x (List.mem_cons_of_mem _ hx)) this.1 this.2
theorem bP9 {N : List Int} : ∀ (w : List Int) (s : Int),¬ av6 w→goD N s w = -1
 | [],s,h=>absurd (fun x hx=>by cases hx) h
 | m :: w,s,h=>by
  rw[goD]
  by_cases hm : m < 0 ∨ 5≤m
  ·rw[if_pos hm]
  ·rw[if_neg hm]
   refine bP9 w _ (fun hw=>h (fun x hx=>?_))
   rcases List.mem_cons.1 hx with rfl | hx
   ·omega
   ·exact hw x hx
open Classical in
theorem bQ0 {n N A} (h : WfD n N A) (w : List Int) : bl0 n N A w = if av6 w then A.getD (goS N 0 (w.map Int.toNat)) false else false := by
 have hn:=h.sz
 unfold bl0 Z1
 rw[if_pos (show (0 : Int)≤0∧(0 : Int) < (n : Int) by omega)]
 by_cases hw : av6 w
 ·rw[if_pos hw,bP8 h w 0 hw (by omega) (by omega),if_pos (by omega)]
  rfl
 ·rw[if_neg hw,bP9 w 0 hw,if_neg (by omega)]
theorem cD2 {n N A k M B} (h : WfD n N A) (h' : WfD k M B) (he : Eqv N A M B 0 0) (w : List Int) : bl0 n N A w = bl0 k M B w := by
 rw[bQ0 h,bQ0 h']
 by_cases hw : av6 w
 ·rw[if_pos hw,if_pos hw]
  exact he _ (bP7 hw)
 ·rw[if_neg hw,if_neg hw]
end Go.Proofs.YtpmjpogcaglphaaGreatDoor.A
namespace Go.Proofs.YtpmjpogcaglphaaGreatDoor.A
open Go
set_option maxRecDepth 20000
theorem aY4 {N : List Int} {n i : Nat} (hN : N.length = 5 * n) (hlt : i < n) : ∃ row,((cI N).drop (i * 5)).take 5 = row∧(∀ j,j < 5→N4 false 1 (row.drop j) = some (.int .i64 (N.getD (i * 5+j) 0)))∧row.length = 5∧row.all w0 = true∧row.take 5 = row∧((cI N).drop (i * 5)).length = N.length - i * 5 := by
 have hl5 : ((cI N).drop (i * 5)).length = N.length - i * 5:=by rw[List.length_drop,l9]
 have htl : (((cI N).drop (i * 5)).take 5).length = 5:=by rw[List.length_take,hl5];omega
 refine ⟨_,rfl,fun j hj=>?_,htl,by rw[bF1,be0];exact bd9 _,j7 htl,hl5⟩
 rw[List.drop_take,List.drop_drop]
 have hk : i * 5+j < N.length:=by omega
 have:=P6 (s:=1) hk
 cases hd : (cI N).drop (i * 5+j) with
 | nil=>rw[hd] at this;cases this
 | cons y l =>
  rw[hd] at this
  obtain ⟨d,hd'⟩ : ∃ d,5 - j = d+1:=⟨4 - j,by omega⟩
  rw[hd']
  exact this
set_option maxRecDepth 20000
def nL (l : List Nat) : List Int := l.map fun k : Nat=>(k : Int)
theorem y5 (l) : (nL l).length = l.length := by simp[nL]
theorem bQ1 (x y) : nL (x++y) = nL x++nL y := by simp[nL]
theorem db4 (l : List Nat) (i : Nat) : (nL l).getD i 0 = (l.getD i 0 : Int) := by
 simp only[nL,List.getD,List.getElem?_map]
 cases l[i]? <;> rfl
theorem bo4 {x y : List Nat} (h : nL x = nL y) : x = y := List.map_inj_right (fun a b h=>by omega) |>.1 h
theorem ae4 {l : List Nat} {i s : Nat} (h : i < l.length) : N4 false s ((cI (nL l)).drop i) = some (.int .i64 (l.getD i 0 : Nat)) := by
 rw[← db4]
 exact P6 (by rw[y5];exact h)
theorem cD3 {N : List Int} {c : List Nat} {s t : Nat} (h0 : c.getD s 0 = c.getD t 0) (h : ∀ m,m < 5→c.getD (N.getD (s * 5+m) 0).toNat 0 = c.getD (N.getD (t * 5+m) 0).toNat 0) : w8 N c s = w8 N c t := by
 unfold w8
 rw[h0]
 exact congrArg (_ :: ·) (List.map_congr_left fun m hm=>h m (List.mem_range.1 hm))
theorem db5 (X) : d9 (EX md0 X) (fun _=>none) 4 Tryz.f95 = true := by kernel_rfl
theorem ci1 {n : Nat} {N : List Int} {A : List Bool} (hw : WfD n N A) {c : List Nat} (hc : c.length = n) {p q : Nat} (hp : p < n) (hq : q < n) : Ok Tryz.prog 95 [S7 n N A,slI (nL c),.int .i64 p,.int .i64 q] (.bool (decide (w8 N c p = w8 N c q))) := by
 refine m7 (E:=EX md0 (fun _ _=>none)) (cr:=noR) (t6 _) (q7 _) mixed (k:=7) Tryz.func95 (db5 _) rfl ?_
 have hn:=hw.sz
 have hN:=hw.l
 have h1:=ae4 (l:=c) (i:=p) (s:=1) (by omega)
 have h2:=ae4 (l:=c) (i:=q) (s:=1) (by omega)
 have hcl:=y5 c
 simp only[Tryz.f95,Option.getD_some]
 by_cases h0 : c.getD p 0 = c.getD q 0
 ·have h0' : ((c.getD p 0 : Nat) : Int) = ((c.getD q 0 : Nat) : Int):=by rw[h0]
  obtain ⟨u,hu⟩ : ∃ u : Int,u = ((c.getD p 0 : Nat) : Int):=⟨_,rfl⟩
  rw[← hu] at h1
  rw[← h0',← hu] at h2
  simp (disch:=omega) only[go_sem,h1,h2]
  refine o9 (fun m a o nx=>∃ j : Nat,j≤5∧m = 5 - j∧(∀ k,k < j→c.getD (N.getD (p * 5+k) 0).toNat 0 = c.getD (N.getD (q * 5+k) 0).toNat 0)∧a 1 = slI (nL c)∧a 2 = .int .i64 p∧a 3 = .int .i64 q∧a 4 = .ptr (0,4) (0,4) 0∧a 9 = .int .i64 j∧o (0,4) = some (.row ⟨37,1,(0,4),false,true,[.sl n (cI N),slB A]⟩)) 5 (by omega) ⟨0,by omega,by omega,fun k hk=>by omega,by simp (disch:=omega) only[go_sem],by simp (disch:=omega) only[go_sem],by simp (disch:=omega) only[go_sem],by simp (disch:=omega) only[go_sem],by simp (disch:=omega) only[go_sem],by simp[b9]⟩ ?_
  rintro m a o nx ⟨j,hj,rfl,hall,ha1,ha2,ha3,ha4,ha9,o4⟩
  by_cases hj5 : j < 5
  ·have g1 : N4 false 1 (((cI N).drop (p * 5)).drop j) = some (.int .i64 (N.getD (p * 5+j) 0)):=by
    rw[List.drop_drop];exact P6 (by omega)
   have g2 : N4 false 1 (((cI N).drop (q * 5)).drop j) = some (.int .i64 (N.getD (q * 5+j) 0)):=by
    rw[List.drop_drop];exact P6 (by omega)
   have e1:=hw.get (k:=p * 5+j) (by omega)
   have e2:=hw.get (k:=q * 5+j) (by omega)
   have hcs:=fun h=>hall j h
   have hnew : c.getD (N.getD (p * 5+j) 0).toNat 0 = c.getD (N.getD (q * 5+j) 0).toNat 0→∀ k,k < j+1→c.getD (N.getD (p * 5+k) 0).toNat 0 = c.getD (N.getD (q * 5+k) 0).toNat 0:=fun h k hk=>by
    by_cases hkj : k = j
    ·rw[hkj];exact h
    ·exact hall k (by omega)
   have hno : ¬ c.getD (N.getD (p * 5+j) 0).toNat 0 = c.getD (N.getD (q * 5+j) 0).toNat 0→¬ w8 N c p = w8 N c q:=fun h e=>h (aY3 e hj5)
   obtain ⟨x,hx⟩ : ∃ x,x = N.getD (p * 5+j) 0:=⟨_,rfl⟩
   obtain ⟨y,hy⟩ : ∃ y,y = N.getD (q * 5+j) 0:=⟨_,rfl⟩
   rw[← hx] at g1 e1
   rw[← hy] at g2 e2
   rw[← hx,← hy] at hnew hno
   have c1:=ae4 (l:=c) (i:=x.toNat) (s:=1) (by omega)
   have c2:=ae4 (l:=c) (i:=y.toNat) (s:=1) (by omega)
   by_cases hxy : c.getD x.toNat 0 = c.getD y.toNat 0
   ·have hnew:=hnew hxy
    rw[← hxy] at c2
    simp (disch:=omega) only[go_sem,ha1,ha2,ha3,ha4,ha9,o4,g1,g2,c1,c2]
    exact ⟨_,by omega,j+1,by omega,rfl,hnew,rfl⟩
   ·rw[decide_eq_false (hno hxy)]
    have hxy' : ¬ ((c.getD x.toNat 0 : Nat) : Int) = ((c.getD y.toNat 0 : Nat) : Int):=by omega
    simp (disch:=omega) only[go_sem,ha1,ha2,ha3,ha4,ha9,o4,g1,g2,c1,c2,hxy']
  ·rw[decide_eq_true (cD3 h0 (fun k hk=>hall k (by omega)))]
   simp (disch:=omega) only[go_sem,ha1,ha2,ha3,ha4,ha9,o4]
 ·rw[decide_eq_false (fun e=>h0 (an1 e))]
  have h0' : ¬ ((c.getD p 0 : Nat) : Int) = ((c.getD q 0 : Nat) : Int):=by omega
  simp (disch:=omega) only[go_sem,h1,h2,h0']
def RAl (args : List AV) (r : AV) : Prop := ∃ (n : Nat) (N : List Int) (A : List Bool) (c : List Nat) (p q : Nat),WfD n N A∧c.length = n∧p < n∧q < n∧args = [S7 n N A,slI (nL c),.int .i64 p,.int .i64 q]∧r = .bool (decide (w8 N c p = w8 N c q))
theorem db6 : N2 RAl := by
 rintro args r r' ⟨n,N,A,c,p,q,_,_,_,_,rfl,rfl⟩ ⟨n',N',A',c',p',q',_,_,_,_,h,rfl⟩
 simp only[List.cons.injEq,AV.int.injEq,true_and,and_true] at h
 obtain ⟨h1,h2,h3,h4⟩:=h
 obtain ⟨_,h1,_⟩:=W0 h1
 have h2:=bo4 (ai8 h2)
 have h3 : p = p':=by omega
 have h4 : q = q':=by omega
 rw[h1,h2,h3,h4]
theorem db7 (args r) (h : RAl args r) : Ok Tryz.prog 95 args r := by obtain ⟨n,N,A,c,p,q,h1,h2,h3,h4,rfl,rfl⟩ := h;exact ci1 h1 h2 h3 h4
noncomputable def XAl : FuncId→List AV→Option AV := t7 [(95,D9 RAl)]
theorem db8 : s6 Tryz.prog XAl := l8 (t6 _) (n8 db7)
theorem db9 {n : Nat} {N : List Int} {A : List Bool} (hw : WfD n N A) {c : List Nat} (hc : c.length = n) {p q : Nat} (hp : p < n) (hq : q < n) : XAl 95 [.agg [.sl n (cI N),slB A],slI (nL c),.int .i64 p,.int .i64 q] = some (.bool (decide (w8 N c p = w8 N c q))) := o8 (R := RAl) db6 ⟨_,_,_,_,_,_,hw,hc,hp,hq,rfl,rfl⟩
theorem dc0 (X) : d9 (EX md0 X) (fun _=>none) 2 Tryz.f89 = true := by kernel_rfl
theorem ci2 {N : List Int} {c F x : List Nat} {i k : Nat} (hF : (O9 N c i).1 = F) (hx : (O9 N c i).2 = x) (hk : k < F.length) (he : w8 N c (F.getD k 0) = w8 N c i) (hn : ∀ q,q < k→¬ w8 N c (F.getD q 0) = w8 N c i) : O9 N c (i+1) = (F,x++[k]) := by
 have : F.findIdx? (fun f=>w8 N c f == w8 N c i) = some k:=by
  rw[List.findIdx?_eq_some_iff_getElem]
  refine ⟨hk,by simpa [List.getD,hk] using he,fun q hq=>?_⟩
  have:=hn q hq
  simpa [List.getD,show q < F.length by omega] using this
 rw[O9,hF,hx,this]
theorem ci3 {N : List Int} {c F x : List Nat} {i : Nat} (hF : (O9 N c i).1 = F) (hx : (O9 N c i).2 = x) (hn : ∀ q,q < F.length→¬ w8 N c (F.getD q 0) = w8 N c i) : O9 N c (i+1) = (F++[i],x++[F.length]) := by
 have : F.findIdx? (fun f=>w8 N c f == w8 N c i) = none:=by
  rw[List.findIdx?_eq_none_iff]
  intro f hf
  obtain ⟨q,hq,rfl⟩:=List.getElem_of_mem hf
  have:=hn q hq
  simpa [List.getD,hq] using this
 rw[O9,hF,hx,this]
theorem aj7 (x : List Nat) (n i k : Nat) (hx : x.length = i) (hi : i < n) : w9 (cI (nL x++List.replicate (n - i) 0)) i [.int .i64 (k : Int)] = cI (nL (x++[k])++List.replicate (n - (i+1)) 0) := by
 rw[aJ7 _ _ _ (by rw[List.length_append,y5,List.length_replicate];omega),List.set_append,if_neg (by rw[y5];omega),y5,hx,Nat.sub_self]
 obtain ⟨d,hd⟩ : ∃ d,n - i = d+1:=⟨n - i - 1,by omega⟩
 rw[hd,show n - (i+1) = d by omega,List.replicate_succ]
 simp[nL]
theorem bQ2 {n : Nat} {N : List Int} {A : List Bool} (hw : WfD n N A) {c : List Nat} (hc : c.length = n) : Ok Tryz.prog 89 [S7 n N A,slI (nL c)] (.tup [slI (nL (O9 N c n).2),.int .i64 ((O9 N c n).1.length : Nat)]) := by
 refine m7 (E:=EX md0 XAl) (cr:=noR) db8 (q7 _) mixed (k:=2003) Tryz.func89 (dc0 _) rfl ?_
 have hn:=hw.sz
 have hN:=hw.l
 have hcl:=y5 c
 have hal:=fun p q hp hq=>db9 hw hc (p:=p) (q:=q) hp hq
 simp only[Tryz.f89,Option.getD_some]
 simp (disch:=omega) only[go_sem,hcl,hc]
 refine o9 (fun m a o nx=>∃ (i : Nat) (F x : List Nat) (vF : AV),O9 N c i = (F,x)∧x.length = i∧F.length≤i∧(∀ f ∈ F,f < n)∧i≤n∧m = n - i∧2≤nx∧a 1 = slI (nL c)∧a 2 = .ptr (0,2) (0,2) 0∧a 6 = .ref (1,12) (1,12) 0 n∧a 7 = vF∧a 8 = .int .i64 i∧o (0,2) = some (.row ⟨37,1,(0,2),false,true,[.sl n (cI N),slB A]⟩)∧o (1,12) = some (.row ⟨3,1,(1,12),false,true,cI (nL x++List.replicate (n - i) 0)⟩)∧HS 3 1 43 o nx vF F.length (cI (nL F))) n (by omega)
  ⟨0,[],[],.nil,rfl,rfl,Nat.le_refl _,fun f hf=>(by cases hf),by omega,by omega,by omega,by simp (disch:=omega) only[go_sem,hc],by simp (disch:=omega) only[go_sem],by simp (disch:=omega) only[go_sem],by simp (disch:=omega) only[go_sem],by simp (disch:=omega) only[go_sem],by simp[b9],by simp[b9,ad2,nL],HS.nil⟩ ?_
 rintro m a o nx ⟨i,F,x,vF,hf,hxl,hFl,hFn,hi,rfl,hnx,ha1,ha2,ha6,ha7,ha8,o2,o12,hF⟩
 have hfF : (O9 N c i).1 = F:=by rw[hf]
 have hfx : (O9 N c i).2 = x:=by rw[hf]
 by_cases hlt : i < n
 ·simp (disch:=omega) only[go_sem,ha1,ha2,ha6,ha7,ha8,o2,o12]
  have hset0 : w9 (cI (nL x++List.replicate (n - i) 0)) i [.int .i64 0] = cI (nL (x++[0])++List.replicate (n - (i+1)) 0):=aj7 x n i 0 hxl hlt
  have hset:=fun k=>aj7 x n i k hxl hlt
  have hrl : (cI (nL x++List.replicate (n - i) 0)).length = n:=by rw[l9,List.length_append,y5,List.length_replicate];omega
  refine o9 (fun m' a o' nx'=>∃ k : Nat,k≤F.length∧m' = F.length - k∧nx≤nx'∧(∀ q,q < k→¬ w8 N c (F.getD q 0) = w8 N c i)∧a 1 = slI (nL c)∧a 2 = .ptr (0,2) (0,2) 0∧a 6 = .ref (1,12) (1,12) 0 n∧a 7 = vF∧a 8 = .int .i64 i∧a 9 = .int .i64 k∧o' = o) F.length (by omega) ⟨0,by omega,by omega,by omega,fun q hq=>by omega,by simp (disch:=omega) only[go_sem,ha1],by simp (disch:=omega) only[go_sem,ha2],by simp (disch:=omega) only[go_sem,ha6],by simp (disch:=omega) only[go_sem,ha7],by simp (disch:=omega) only[go_sem,ha8],by simp (disch:=omega) only[go_sem],rfl⟩ ?_
  clear ha1 ha2 ha6 ha7 ha8
  rintro m' a o' nx' ⟨k,hk,rfl,hnx',hno,ha1,ha2,ha6,ha7,ha8,ha9,rfl⟩
  by_cases hkF : k < F.length
  ·rcases hF with ⟨_,h0,_⟩ | ⟨i1,g,rfl,hi1,hro,hrl2⟩
   ·omega
   have hat:=ae4 (l:=F) (i:=k) (s:=1) hkF
   have hm : F.getD k 0 < n:=hFn _ (by rw[List.getD_eq_getElem?_getD,List.getElem?_eq_getElem hkF];exact List.getElem_mem ..)
   have hal:=hal (F.getD k 0) i hm hlt
   by_cases he : w8 N c (F.getD k 0) = w8 N c i
   ·have hfs:=ci2 hfF hfx hkF he hno
    rw[decide_eq_true he] at hal
    generalize F.getD k 0 = f at *
    simp (disch:=omega) only[go_sem,ha1,ha2,ha6,ha7,ha8,ha9,o2,o12,hro,hat,hal,hset,hrl]
    exact ⟨n - (i+1),by omega,i+1,F,x++[k],_,hfs,by simp[hxl],by omega,hFn,by omega,rfl,rfl,rfl,rfl,.inr ⟨i1,g,rfl,by omega,by simp[b9,hro],hrl2⟩⟩
   ·rw[decide_eq_false he] at hal
    have hno' : ∀ q,q < k+1→¬ w8 N c (F.getD q 0) = w8 N c i:=fun q hq=>by
     by_cases hqk : q = k
     ·rw[hqk];exact he
     ·exact hno q (by omega)
    generalize F.getD k 0 = f at *
    simp (disch:=omega) only[go_sem,ha1,ha2,ha6,ha7,ha8,ha9,o2,o12,hro,hat,hal,hset,hrl]
    exact ⟨_,by omega,k+1,by omega,rfl,by omega,hno',rfl⟩
  ·have hke : k = F.length:=by omega
   have hfs:=ci3 hfF hfx (fun q hq=>hno q (by omega))
   have hFn' : ∀ f ∈ F++[i],f < n:=fun f hf=>by
    rcases List.mem_append.1 hf with hf | hf
    ·exact hFn f hf
    ·rw[List.mem_singleton.1 hf];exact hlt
   subst hke
   rcases hF with ⟨rfl,h0,h1⟩ | ⟨i1,g,rfl,hi1,hro,hrl2⟩
   ·have hF0 : F = []:=List.length_eq_zero_iff.1 h0
    subst hF0
    simp (disch:=omega) only[go_sem,ha1,ha2,ha6,ha7,ha8,ha9,o2,o12,hset0,hrl,List.length_nil]
    refine ⟨n - (i+1),by omega,i+1,[i],x++[0],_,hfs,by simp[hxl],by simp,hFn',by omega,rfl,rfl,rfl,rfl,?_⟩
    refine .inr ⟨_,_,rfl,by omega,?_,rfl⟩
    simp[b9,nL,cI]
   ·have hkl : (cI (nL F)).take F.length = cI (nL F):=j7 (by rw[l9,y5])
    simp (disch:=omega) only[go_sem,ha1,ha2,ha6,ha7,ha8,ha9,o2,o12,hro,hset,hrl,hkl,y5]
    refine ⟨n - (i+1),by omega,i+1,F++[i],x++[F.length],_,hfs,by simp[hxl],by simp;omega,hFn',by omega,rfl,rfl,rfl,rfl,?_⟩
    refine .inr ⟨i1,(nx'+1+1,43),by simp,by omega,?_,by simp[l9,y5]⟩
    simp[b9,bQ1,P5]
    rfl
 ·have hie : i = n:=by omega
  subst hie
  have hv : (nL x).length = i:=by rw[y5];exact hxl
  have htk : (cI (nL x)).take i = cI (nL x):=j7 (by rw[l9];exact hv)
  rw[Nat.sub_self,List.replicate_zero,List.append_nil] at o12
  have hlF : R9 Tryz.prog o 23 vF = some (.int .i64 (F.length : Nat)):=by
   rcases hF with ⟨rfl,h0,h1⟩ | ⟨i1,g,rfl,hi1,hro,hrl2⟩
   ·rw[h0];rfl
   ·rfl
  rw[hf]
  simp (disch:=omega) only[go_sem,ha1,ha2,ha6,ha7,ha8,o2,o12,hlF,hv,htk]
  rw[slI,hv]
set_option maxRecDepth 20000
theorem aP5 (N c i) : (O9 N c i).2.length = i := (ar6 N c i).len
def dr0 (args : List AV) (r : AV) : Prop := ∃ (n : Nat) (N : List Int) (A : List Bool) (c : List Nat),WfD n N A∧c.length = n∧args = [S7 n N A,slI (nL c)]∧r = .tup [slI (nL (O9 N c n).2),.int .i64 ((O9 N c n).1.length : Nat)]
theorem cD4 : N2 dr0 := by
 rintro args r r' ⟨n,N,A,c,_,_,rfl,rfl⟩ ⟨n',N',A',c',_,_,h,rfl⟩
 simp only[List.cons.injEq,and_true] at h
 obtain ⟨h1,h2⟩:=h
 obtain ⟨h0,h1,_⟩:=W0 h1
 have h2:=bo4 (ai8 h2)
 rw[h0,h1,h2]
theorem cD5 (args r) (h : dr0 args r) : Ok Tryz.prog 89 args r := by obtain ⟨n,N,A,c,h1,h2,rfl,rfl⟩ := h;exact bQ2 h1 h2
noncomputable def dr1 : FuncId→List AV→Option AV := t7 [(89,D9 dr0)]
theorem cD6 : s6 Tryz.prog dr1 := l8 (t6 _) (n8 cD5)
theorem cD7 {n : Nat} {N : List Int} {A : List Bool} (hw : WfD n N A) {c : List Nat} (hc : c.length = n) : dr1 89 [.agg [.sl n (cI N),.sl n (cB A)],.sl n (cI (nL c))] = some (.tup [.sl n (cI (nL (O9 N c n).2)),.int .i64 ((O9 N c n).1.length : Nat)]) := by
 have:=o8 (R:=dr0) cD4 ⟨n,N,A,c,hw,hc,rfl,rfl⟩
 rw[S7,slB,hw.a,slI,slI,y5,y5,hc,aP5] at this
 exact this
theorem aY5 {A : List Bool} {i : Nat} (h : i < A.length) : ah0 (A.take (i+1)) = ah0 (A.take i)++[if A.getD i false then 1 else 0] := by
 rw[q8 h false];simp[ah0]
theorem bo5 (x : List Nat) (n i : Nat) (hi : i < n) : cI (nL x++List.replicate (n - i) 0) = cI (nL (x++[0])++List.replicate (n - (i+1)) 0) := by
 obtain ⟨d,hd⟩ : ∃ d,n - i = d+1:=⟨n - i - 1,by omega⟩
 rw[hd,show n - (i+1) = d by omega,List.replicate_succ]
 simp[nL]
theorem dc1 : d9 (EX md0 dr1) (fun _=>none) 1 Tryz.f63 = true := by kernel_rfl
theorem aL2 {N : List Int} {len r : Nat} {c : List Nat} {k : Nat} {x : List Nat} (h : ar7 N len r c k = some x) : ∃ r',r = r'+1∧(if (O9 N c len).1.length = k then (O9 N c len).2 = x else ar7 N len r' (O9 N c len).2 (O9 N c len).1.length = some x) := by
 cases r with
 | zero=>cases h
 | succ r =>
  refine ⟨r,rfl,?_⟩
  rw[ar7] at h
  split at h
  ·rename_i e;rw[if_pos e];injection h
  ·rename_i e;rw[if_neg e];exact h
theorem bQ3 {n : Nat} {N : List Int} {A : List Bool} (hw : WfD n N A) : Ok Tryz.prog 63 [S7 n N A] (slI (nL (Y1 N A))) := by
 refine m7 (E:=EX md0 dr1) (cr:=noR) cD6 (q7 _) mixed (k:=2005) Tryz.func63 dc1 rfl ?_
 have hn:=hw.sz
 have hN:=hw.l
 have hA:=hw.a
 have hfin:=fun c hc=>cD7 hw (c:=c) hc
 simp only[Tryz.f63,Option.getD_some]
 rw[S7,slB,hA]
 simp (disch:=omega) only[go_sem]
 refine o9 (fun m a o nx=>∃ i : Nat,i≤n∧m = n - i∧2≤nx∧a 1 = .ptr (0,1) (0,1) 0∧a 3 = .ref (1,11) (1,11) 0 n∧a 4 = .int .i64 i∧o (0,1) = some (.row ⟨37,1,(0,1),false,true,[.sl n (cI N),.sl n (cB A)]⟩)∧o (1,11) = some (.row ⟨3,1,(1,11),false,true,cI (nL (ah0 (A.take i))++List.replicate (n - i) 0)⟩)) n (by omega)
  ⟨0,by omega,by omega,by omega,by simp (disch:=omega) only[go_sem],by simp (disch:=omega) only[go_sem],by simp (disch:=omega) only[go_sem],by simp[b9],by simp[b9,ad2,nL,ah0]⟩ ?_
 rintro m a o nx ⟨i,hi,rfl,hnx,ha1,ha3,ha4,o1,o11⟩
 by_cases hlt : i < n
 ·have hat:=L3 (l:=A) (i:=i) (s:=1) (by omega)
  have hsn:=aY5 (A:=A) (i:=i) (by omega)
  have hxl : (ah0 (A.take i)).length = i:=by simp[ah0];omega
  have hset1 : w9 (cI (nL (ah0 (A.take i))++List.replicate (n - i) 0)) i [.int .i64 1] = cI (nL (ah0 (A.take i)++[1])++List.replicate (n - (i+1)) 0):=aj7 _ n i 1 hxl hlt
  have hzero:=bo5 (ah0 (A.take i)) n i hlt
  have hrl : (cI (nL (ah0 (A.take i))++List.replicate (n - i) 0)).length = n:=by rw[l9,List.length_append,y5,List.length_replicate];omega
  generalize A.getD i false = b at hat hsn
  cases b
  ·rw[if_neg (by decide)] at hsn
   rw[← hsn] at hzero
   simp (disch:=omega) only[go_sem,ha1,ha3,ha4,o1,o11,hat]
   exact ⟨_,by omega,i+1,by omega,rfl,rfl,by rw[hzero]⟩
  ·rw[if_pos rfl] at hsn
   rw[← hsn] at hset1
   simp (disch:=omega) only[go_sem,ha1,ha3,ha4,o1,o11,hat,hset1,hrl]
   exact ⟨_,by omega,i+1,by omega,rfl,rfl,rfl⟩
 ·have hie : i = n:=by omega
  subst hie
  rw[Nat.sub_self,List.replicate_zero,List.append_nil,List.take_of_length_le (by omega)] at o11
  simp (disch:=omega) only[go_sem,ha1,ha3,ha4,o1,o11]
  have hcl : (ah0 A).length = i:=by simp[ah0];omega
  have hcls:=(an3 hw.okD).1
  rw[hA] at hcls
  generalize Y1 N A = X at *
  refine o9 (fun m a o nx=>∃ (r : Nat) (c : List Nat) (k : Nat),ar7 N i r c k = some X∧c.length = i∧m = r∧2≤nx∧(a 3 = .ref (1,11) (1,11) 0 i∧o (1,11) = some (.row ⟨3,1,(1,11),false,true,cI (nL c)⟩) ∨ a 3 = .sl i (cI (nL c)))∧a 1 = .ptr (0,1) (0,1) 0∧a 5 = .int .i64 k∧o (0,1) = some (.row ⟨37,1,(0,1),false,true,[.sl i (cI N),.sl i (cB A)]⟩)) (i+2) (by omega)
   ⟨i+2,ah0 A,0,hcls,hcl,rfl,by omega,.inl ⟨by simp (disch:=omega) only[go_sem,ha3],by simp (disch:=omega) only[go_sem,o11]⟩,by simp (disch:=omega) only[go_sem,ha1],by simp (disch:=omega) only[go_sem],by simp (disch:=omega) only[go_sem,o1]⟩ ?_
  clear ha1 ha3 ha4 o1 o11 hcls hcl
  rintro m a o nx ⟨r,c,k,hp,hcl,rfl,hnx,hc3,ha1,ha5,o1⟩
  obtain ⟨r',rfl,hs⟩:=aL2 hp
  have hf:=hfin c hcl
  have hl1:=aP5 N c i
  have hrl : (cI (nL c)).length = i:=by rw[l9,y5,hcl]
  have htk : (cI (nL c)).take i = cI (nL c):=j7 hrl
  generalize O9 N c i = FX at *
  obtain ⟨F,x⟩:=FX
  dsimp only at hs hf hl1
  by_cases he : F.length = k
  ·rw[if_pos he] at hs
   subst hs
   have he' : ((F.length : Nat) : Int) = (k : Int):=by rw[he]
   rcases hc3 with ⟨ha3,o11⟩ | ha3
   ·simp (disch:=omega) only[go_sem,ha1,ha3,ha5,o1,o11,hf,he',hrl,htk]
    rw[slI,y5,hl1]
   ·simp (disch:=omega) only[go_sem,ha1,ha3,ha5,o1,hf,he']
    rw[slI,y5,hl1]
  ·rw[if_neg he] at hs
   have he' : ¬ ((F.length : Nat) : Int) = (k : Int):=by omega
   rcases hc3 with ⟨ha3,o11⟩ | ha3
   ·simp (disch:=omega) only[go_sem,ha1,ha3,ha5,o1,o11,hf,he',hrl,htk]
    exact ⟨r',by omega,r',x,F.length,hs,hl1,rfl,rfl,rfl⟩
   ·simp (disch:=omega) only[go_sem,ha1,ha3,ha5,o1,hf,he']
    exact ⟨r',by omega,r',x,F.length,hs,hl1,rfl,rfl,rfl⟩
set_option maxRecDepth 20000
structure PermL (k : Nat) (t : List Nat) : Prop where
 len : t.length = k
 lt : ∀ (i x : Nat),t[i]? = some x→x < k
 inj : ∀ (i j x : Nat),t[i]? = some x→t[j]? = some x→i = j
theorem PermL.range (k : Nat) : PermL k (List.range k) := by
 refine ⟨by simp,fun i x h=>?_,fun i j x h h'=>?_⟩
 ·have h1:=(List.getElem?_eq_some_iff.1 h).1
  have h2:=(List.getElem?_eq_some_iff.1 h).2
  simp at h1 h2
  omega
 ·have h2:=(List.getElem?_eq_some_iff.1 h).2
  have h3:=(List.getElem?_eq_some_iff.1 h').2
  simp at h2 h3
  omega
theorem PermL.nodup {k t} (h : PermL k t) : t.Nodup := by
 unfold List.Nodup
 rw[List.pairwise_iff_getElem]
 intro i j hi hj hij e
 have:=h.inj i j t[i] (List.getElem?_eq_getElem hi) (by rw[e];exact List.getElem?_eq_getElem hj)
 omega
theorem PermL.get {k t} (h : PermL k t) {i : Nat} (hi : i < k) : t[i]? = some (t.getD i 0) := by
 have : i < t.length:=by rw[h.len];exact hi
 simp[List.getD,this]
def bQ4 (t : List Nat) (a b : Nat) : List Nat := (t.set a (t.getD b 0)).set b (t.getD a 0)
theorem aY6 {t : List Nat} {a b : Nat} (ha : a < t.length) (hb : b < t.length) (i : Nat) : (bQ4 t a b)[i]? = if b = i then some (t.getD a 0) else if a = i then some (t.getD b 0) else t[i]? := by
 unfold bQ4
 rw[List.getElem?_set,List.getElem?_set]
 simp only[List.length_set,hb,ha,if_true]
theorem PermL.swap {k t} (h : PermL k t) {a b : Nat} (ha : a < k) (hb : b < k) : PermL k (bQ4 t a b) := by
 have la : a < t.length:=by rw[h.len];exact ha
 have lb : b < t.length:=by rw[h.len];exact hb
 refine ⟨by simp[bQ4,h.len],fun i x hx=>?_,fun i j x hx hy=>?_⟩
 ·rw[aY6 la lb] at hx
  split at hx
  ·injection hx with hx;rw[← hx];exact h.lt a _ (h.get ha)
  ·split at hx
   ·injection hx with hx;rw[← hx];exact h.lt b _ (h.get hb)
   ·exact h.lt i x hx
 ·-- where a place's number stood before
  have key : ∀ i x,(bQ4 t a b)[i]? = some x→t[if b = i then a else if a = i then b else i]? = some x:=fun i x hx=>by
   rw[aY6 la lb] at hx
   by_cases e : b = i
   ·rw[if_pos e] at hx ⊢
    rw[← hx];exact h.get ha
   ·rw[if_neg e] at hx ⊢
    by_cases e2 : a = i
    ·rw[if_pos e2] at hx ⊢
     rw[← hx];exact h.get hb
    ·rw[if_neg e2] at hx ⊢
     exact hx
  have:=h.inj _ _ x (key i x hx) (key j x hy)
  split at this <;> split at this <;> (try split at this) <;> (try split at this) <;> omega
set_option maxRecDepth 20000
end Go.Proofs.YtpmjpogcaglphaaGreatDoor.A
