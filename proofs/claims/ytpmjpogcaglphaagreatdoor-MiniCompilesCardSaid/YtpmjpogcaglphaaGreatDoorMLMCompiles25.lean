/- The least machine, plainly: classes numbered by the first state of each kind. -/
import Derived.Test.YtpmjpogcaglphaaGreatDoorMLMCompiles4
set_option linter.unusedVariables false
set_option linter.unusedSimpArgs false
set_option linter.unnecessarySimpa false
namespace Go.Proofs.YtpmjpogcaglphaaGreatDoor.A
open Go
set_option maxRecDepth 20000
def w8 (N : List Int) (c : List Nat) (s : Nat) : List Nat := c.getD s 0 :: (List.range 5).map fun m=>c.getD (N.getD (s * 5+m) 0).toNat 0
def O9 (N : List Int) (c : List Nat) : Nat→List Nat × List Nat
 | 0=>([],[])
 | i+1=>match (O9 N c i).1.findIdx? (fun f=>w8 N c f == w8 N c i) with
  | some k=>((O9 N c i).1,(O9 N c i).2++[k])
  | none=>((O9 N c i).1++[i],(O9 N c i).2++[(O9 N c i).1.length])
structure FinAt (N : List Int) (c : List Nat) (i : Nat) (F x : List Nat) : Prop where
 len : x.length = i
 most : F.length≤i
 in_ : ∀ (k f : Nat),F[k]? = some f→f < i∧x[f]? = some k
 rep : ∀ (s k : Nat),x[s]? = some k→∃ f,F[k]? = some f∧w8 N c f = w8 N c s
 one : ∀ (k k' f f' : Nat),F[k]? = some f→F[k']? = some f'→w8 N c f = w8 N c f'→k = k'
theorem P0 {α} {l : List α} {a b : α} {k : Nat} (h : (l++[a])[k]? = some b) : l[k]? = some b ∨ (k = l.length∧b = a) := by
 by_cases hk : k < l.length
 ·rw[List.getElem?_append_left hk] at h;exact .inl h
 ·rw[List.getElem?_append_right (by omega)] at h
  by_cases hk2 : k = l.length
  ·subst hk2;simp at h;exact .inr ⟨rfl,h.symm⟩
  ·rw[List.getElem?_eq_none (by simp;omega)] at h;cases h
theorem ag9 {α} {l : List α} {a b : α} {k : Nat} (h : l[k]? = some b) : (l++[a])[k]? = some b := by
 rw[List.getElem?_append_left (List.getElem?_eq_some_iff.1 h).1];exact h
theorem ar6 (N : List Int) (c : List Nat) : ∀ i,FinAt N c i (O9 N c i).1 (O9 N c i).2
 | 0=>⟨rfl,Nat.le_refl _,fun k f h=>by simp[O9] at h,fun s k h=>by simp[O9] at h,fun k k' f f' h=>by simp[O9] at h⟩
 | i+1=>by
  have ih:=ar6 N c i
  rw[O9]
  generalize (O9 N c i).1 = F at *
  generalize (O9 N c i).2 = x at *
  cases hf : F.findIdx? (fun f=>w8 N c f == w8 N c i) with
  | some k =>
   obtain ⟨hk,hk2,_⟩:=List.findIdx?_eq_some_iff_getElem.1 hf
   have hk2 : w8 N c F[k] = w8 N c i:=by simpa using hk2
   have hgk : F[k]? = some F[k]:=List.getElem?_eq_getElem hk
   refine ⟨by simp[ih.len],by have:=ih.most;simp;omega,fun q f h=>?_,fun s q h=>?_,ih.one⟩
   ·obtain ⟨h1,h2⟩:=ih.in_ q f h
    exact ⟨by omega,ag9 h2⟩
   ·rcases P0 h with h | ⟨h1,h2⟩
    ·exact ih.rep s q h
    ·rw[ih.len] at h1
     subst h1 h2
     exact ⟨_,hgk,hk2⟩
  | none =>
   have hn : ∀ f ∈ F,w8 N c f ≠ w8 N c i:=fun f hf2 e=>by
    have:=List.findIdx?_eq_none_iff.1 hf f hf2
    rw[e] at this
    simp at this
   have hn2 : ∀ k f,F[k]? = some f→w8 N c f ≠ w8 N c i:=fun k f h=>hn f (List.mem_of_getElem? h)
   refine ⟨by simp[ih.len],by have:=ih.most;simp;omega,fun q f h=>?_,fun s q h=>?_,fun k k' f f' h h' e=>?_⟩
   ·rcases P0 h with h | ⟨h1,h2⟩
    ·obtain ⟨h1,h2⟩:=ih.in_ q f h
     exact ⟨by omega,ag9 h2⟩
    ·subst h1 h2
     exact ⟨by omega,by rw[List.getElem?_append_right (by rw[ih.len];omega),ih.len];simp⟩
   ·rcases P0 h with h | ⟨h1,h2⟩
    ·obtain ⟨f,h1,h2⟩:=ih.rep s q h
     exact ⟨f,ag9 h1,h2⟩
    ·rw[ih.len] at h1
     subst h1 h2
     exact ⟨s,by simp,rfl⟩
   ·rcases P0 h with h | ⟨h1,h2⟩ <;> rcases P0 h' with h' | ⟨h1',h2'⟩
    ·exact ih.one k k' f f' h h' e
    ·rw[h2'] at e;exact absurd e (hn2 k f h)
    ·rw[h2] at e;exact absurd e.symm (hn2 k' f' h')
    ·omega
theorem FinAt.iff {N c i F x} (h : FinAt N c i F x) {s t k k' : Nat} (hs : x[s]? = some k) (ht : x[t]? = some k') : k = k' ↔ w8 N c s = w8 N c t := by
 obtain ⟨f,f1,f2⟩:=h.rep s k hs
 obtain ⟨g,g1,g2⟩:=h.rep t k' ht
 constructor
 ·rintro rfl
  rw[f1] at g1
  injection g1 with g1
  rw[← f2,← g2,g1]
 ·intro e
  exact h.one k k' f g f1 g1 (by rw[f2,g2,e])
set_option maxRecDepth 20000
theorem FinAt.lt {N c i F x} (h : FinAt N c i F x) {s k : Nat} (hs : x[s]? = some k) : s < i∧k < F.length := by
 obtain ⟨f,f1,_⟩:=h.rep s k hs
 have:=(List.getElem?_eq_some_iff.1 hs).1
 exact ⟨by rw[← h.len];exact this,(List.getElem?_eq_some_iff.1 f1).1⟩
theorem FinAt.get {N c i F x} (h : FinAt N c i F x) {s : Nat} (hs : s < i) : ∃ k,x[s]? = some k := ⟨_,List.getElem?_eq_getElem (by rw[h.len];exact hs)⟩
theorem an1 {N : List Int} {c : List Nat} {s t : Nat} (h : w8 N c s = w8 N c t) : c.getD s 0 = c.getD t 0 := by
 unfold w8 at h
 exact (List.cons.inj h).1
theorem aY3 {N : List Int} {c : List Nat} {s t m : Nat} (h : w8 N c s = w8 N c t) (hm : m < 5) : c.getD (N.getD (s * 5+m) 0).toNat 0 = c.getD (N.getD (t * 5+m) 0).toNat 0 := by
 unfold w8 at h
 have h:=(List.cons.inj h).2
 have h2:=congrArg (fun l : List Nat=>l[m]?) h
 simpa [List.getElem?_map,List.getElem?_range hm] using h2
theorem G8 {l : List Nat} {s k : Nat} (h : l[s]? = some k) : l.getD s 0 = k := by simp[List.getD,h]
theorem FinAt.grow {N c i F x F' x'} (h : FinAt N c i F x) (h' : FinAt N x i F' x') : F.length≤F'.length∧(F.length = F'.length→∀ s t k : Nat,x[s]? = some k→x[t]? = some k→x'[s]? = x'[t]?) := by
 obtain ⟨L,hL⟩ : ∃ L : List Nat,L = (List.range F.length).map (fun k=>x'.getD (F.getD k 0) 0):=⟨_,rfl⟩
 have hLl : L.length = F.length:=by rw[hL];simp
 have hat : ∀ k,k < F.length→∃ f k',F[k]? = some f∧x[f]? = some k∧x'[f]? = some k'∧x'.getD (F.getD k 0) 0 = k':=fun k hk=>by
  have e:=List.getElem?_eq_getElem hk
  obtain ⟨h1,h2⟩:=h.in_ k _ e
  obtain ⟨k',h3⟩:=h'.get h1
  refine ⟨_,k',e,h2,h3,?_⟩
  rw[G8 e,G8 h3]
 have hinj : ∀ k l,k < F.length→l < F.length→x'.getD (F.getD k 0) 0 = x'.getD (F.getD l 0) 0→k = l:=fun k l hk hl e=>by
  obtain ⟨f,k',a1,a2,a3,a4⟩:=hat k hk
  obtain ⟨g,l',b1,b2,b3,b4⟩:=hat l hl
  have e2:=an1 ((h'.iff a3 b3).1 (by rw[← a4,← b4,e]))
  rwa [G8 a2,G8 b2] at e2
 have hnd : L.Nodup:=by
  rw[hL]
  unfold List.Nodup
  rw[List.pairwise_map]
  refine List.Pairwise.imp_of_mem ?_ List.nodup_range
  intro a b ha hb hab e
  exact hab (hinj a b (List.mem_range.1 ha) (List.mem_range.1 hb) e)
 have hsub : ∀ y ∈ L,y < F'.length:=fun y hy=>by
  rw[hL] at hy
  obtain ⟨k,hk,rfl⟩:=List.mem_map.1 hy
  obtain ⟨f,k',a1,a2,a3,a4⟩:=hat k (List.mem_range.1 hk)
  rw[a4]
  exact (h'.lt a3).2
 refine ⟨?_,fun he=>?_⟩
 ·have:=List.Nodup.length_le_of_subset hnd (l₂:=List.range F'.length) (fun y hy=>List.mem_range.2 (hsub y hy))
  rw[List.length_range] at this
  omega
 ·have key : ∀ s k : Nat,x[s]? = some k→∃ k',x'[s]? = some k'∧k' = x'.getD (F.getD k 0) 0:=fun s k hs=>by
   obtain ⟨k',hk'⟩:=h'.get (h.lt hs).1
   have hk2:=(h'.lt hk').2
   by_cases hm : k' ∈ L
   ·rw[hL] at hm
    obtain ⟨q,hq,hq2⟩:=List.mem_map.1 hm
    obtain ⟨f,q',a1,a2,a3,a4⟩:=hat q (List.mem_range.1 hq)
    have e2:=an1 ((h'.iff a3 hk').1 (by rw[← a4];exact hq2))
    rw[G8 a2,G8 hs] at e2
    subst e2
    exact ⟨k',hk',hq2.symm⟩
   ·have:=List.Nodup.length_le_of_subset (l₁:=k' :: L) (l₂:=List.range F'.length) (List.nodup_cons.2 ⟨hm,hnd⟩) (fun y hy=>by
     rcases List.mem_cons.1 hy with rfl | hy
     ·exact List.mem_range.2 hk2
     ·exact List.mem_range.2 (hsub y hy))
    rw[List.length_range,List.length_cons] at this
    omega
  intro s t k hs ht
  obtain ⟨a,a1,a2⟩:=key s k hs
  obtain ⟨b,b1,b2⟩:=key t k ht
  rw[a1,b1,a2,b2]
set_option maxRecDepth 20000
def ar7 (N : List Int) (len : Nat) : Nat→List Nat→Nat→Option (List Nat)
 | 0,_,_=>none
 | r+1,c,n=>if (O9 N c len).1.length = n then some (O9 N c len).2 else ar7 N len r (O9 N c len).2 (O9 N c len).1.length
def Ended (N : List Int) (len : Nat) (x : List Nat) : Prop := ∃ c2 F1 c1 F2,FinAt N c2 len F1 c1∧FinAt N c1 len F2 x∧F1.length = F2.length
theorem bO9 {N : List Int} {len : Nat} (P : List Nat→Prop) (hP : ∀ c,c.length = len→P c→P (O9 N c len).2) : ∀ (r : Nat) (c0 F c : List Nat),FinAt N c0 len F c→P c→len+1 - F.length≤r→∃ x,ar7 N len r c F.length = some x∧P x∧Ended N len x
 | 0,c0,F,c,h,_,hr=>by
  have:=h.most
  omega
 | r+1,c0,F,c,h,hc,hr=>by
  have h':=ar6 N c len
  have hg:=(h.grow h').1
  rw[ar7]
  by_cases he : (O9 N c len).1.length = F.length
  ·rw[if_pos he]
   exact ⟨_,rfl,hP c h.len hc,c0,F,c,_,h,h',he.symm⟩
  ·rw[if_neg he]
   exact bO9 P hP r c _ _ h' (hP c h.len hc) (by omega)
theorem ch8 {N : List Int} {len : Nat} (hl : 1≤len) (P : List Nat→Prop) (hP : ∀ c,c.length = len→P c→P (O9 N c len).2) (c : List Nat) (hcl : c.length = len) (hc : P c) : ∃ x,ar7 N len (len+2) c 0 = some x∧P x∧Ended N len x := by
 have h':=ar6 N c len
 obtain ⟨k,hk⟩:=h'.get (s:=0) (by omega)
 have hpos:=(h'.lt hk).2
 rw[ar7,if_neg (by omega)]
 exact bO9 P hP (len+1) c _ _ h' (hP c hcl hc) (by omega)
theorem Ended.same {N len x} (h : Ended N len x) {s t k : Nat} (hN : ∀ i,i < 5 * len→0≤N.getD i 0∧N.getD i 0 < len) (hs : x[s]? = some k) (ht : x[t]? = some k) {m : Nat} (hm : m < 5) : x[(N.getD (s * 5+m) 0).toNat]? = x[(N.getD (t * 5+m) 0).toNat]? := by
 obtain ⟨c2,F1,c1,F2,h1,h2,he⟩:=h
 have hs2:=(h2.lt hs).1
 have ht2:=(h2.lt ht).1
 have e:=aY3 ((h2.iff hs ht).1 rfl) hm
 have a:=hN (s * 5+m) (by omega)
 have b:=hN (t * 5+m) (by omega)
 obtain ⟨p,hp⟩:=h1.get (s:=(N.getD (s * 5+m) 0).toNat) (by omega)
 obtain ⟨q,hq⟩:=h1.get (s:=(N.getD (t * 5+m) 0).toNat) (by omega)
 rw[G8 hp,G8 hq] at e
 exact (h1.grow h2).2 he _ _ p hp (e ▸ hq)
set_option maxRecDepth 20000
def goS (N : List Int) : Nat→List Nat→Nat
 | s,[]=>s
 | s,m :: w=>goS N (N.getD (s * 5+m) 0).toNat w
def Agree (A : List Bool) (len : Nat) (c : List Nat) : Prop := ∀ s t : Nat,s < len→t < len→c.getD s 0 = c.getD t 0→A.getD s false = A.getD t false
def Told (N : List Int) (A : List Bool) (len : Nat) (c : List Nat) : Prop := ∀ s t : Nat,s < len→t < len→c.getD s 0 ≠ c.getD t 0→∃ w : List Nat,(∀ m ∈ w,m < 5)∧A.getD (goS N s w) false ≠ A.getD (goS N t w) false
theorem Agree.step {N : List Int} {A : List Bool} {len : Nat} {c : List Nat} (h : Agree A len c) : Agree A len (O9 N c len).2 := fun s t hs ht e=>by
 have h':=ar6 N c len
 obtain ⟨k,hk⟩:=h'.get hs
 obtain ⟨l,hl⟩:=h'.get ht
 rw[G8 hk,G8 hl] at e
 exact h s t hs ht (an1 ((h'.iff hk hl).1 e))
theorem bh0 {N : List Int} {c : List Nat} {s t : Nat} (h : w8 N c s ≠ w8 N c t) : c.getD s 0 ≠ c.getD t 0 ∨ ∃ m,m < 5∧c.getD (N.getD (s * 5+m) 0).toNat 0 ≠ c.getD (N.getD (t * 5+m) 0).toNat 0 := by
 by_cases h0 : c.getD s 0 = c.getD t 0
 ·refine .inr ?_
  by_cases hx : ∀ m,m < 5→c.getD (N.getD (s * 5+m) 0).toNat 0 = c.getD (N.getD (t * 5+m) 0).toNat 0
  ·refine absurd ?_ h
   unfold w8
   rw[h0]
   refine congrArg (_ :: ·) (List.map_congr_left fun m hm=>hx m (List.mem_range.1 hm))
  ·obtain ⟨m,hm⟩:=Classical.not_forall.1 hx
   obtain ⟨h1,h2⟩:=Classical.not_imp.1 hm
   exact ⟨m,h1,h2⟩
 ·exact .inl h0
theorem Told.step {N : List Int} {A : List Bool} {len : Nat} {c : List Nat} (hN : ∀ i,i < 5 * len→0≤N.getD i 0∧N.getD i 0 < len) (h : Told N A len c) : Told N A len (O9 N c len).2 := fun s t hs ht e=>by
 have h':=ar6 N c len
 obtain ⟨k,hk⟩:=h'.get hs
 obtain ⟨l,hl⟩:=h'.get ht
 rw[G8 hk,G8 hl] at e
 rcases bh0 (fun e2=>e ((h'.iff hk hl).2 e2)) with h0 | ⟨m,hm,h0⟩
 ·exact h s t hs ht h0
 ·have a:=hN (s * 5+m) (by omega)
  have b:=hN (t * 5+m) (by omega)
  obtain ⟨w,w1,w2⟩:=h (N.getD (s * 5+m) 0).toNat (N.getD (t * 5+m) 0).toNat (by omega) (by omega) h0
  refine ⟨m :: w,fun y hy=>?_,w2⟩
  rcases List.mem_cons.1 hy with rfl | hy
  ·exact hm
  ·exact w1 y hy
def ah0 (A : List Bool) : List Nat := A.map fun b=>if b then 1 else 0
theorem ax0 {A : List Bool} {s : Nat} (h : s < A.length) : (ah0 A).getD s 0 = if A.getD s false then 1 else 0 := by
 simp[ah0,List.getD,h]
theorem bx9 (A : List Bool) : Agree A A.length (ah0 A) := fun s t hs ht e=>by
 rw[ax0 hs,ax0 ht] at e
 cases h1 : A.getD s false <;> cases h2 : A.getD t false <;> simp_all
theorem bP0 (N : List Int) (A : List Bool) : Told N A A.length (ah0 A) := fun s t hs ht e=>by
 refine ⟨[],⟨fun y hy=>(List.not_mem_nil hy).elim,fun e2=>e ?_⟩⟩
 rw[ax0 hs,ax0 ht]
 change A.getD s false = A.getD t false at e2
 rw[e2]
theorem by0 {N : List Int} {A : List Bool} (hl : 1≤A.length) (hN : ∀ i,i < 5 * A.length→0≤N.getD i 0∧N.getD i 0 < A.length) : ∃ x,ar7 N A.length (A.length+2) (ah0 A) 0 = some x∧Agree A A.length x∧Told N A A.length x∧Ended N A.length x := by
 obtain ⟨x,h1,⟨h2,h3⟩,h4⟩:=ch8 (N:=N) hl (fun c=>Agree A A.length c∧Told N A A.length c) (fun c _ h=>⟨h.1.step,h.2.step hN⟩) (ah0 A) (by simp[ah0]) ⟨bx9 A,bP0 N A⟩
 exact ⟨x,h1,h2,h3,h4⟩
set_option maxRecDepth 20000
def aR7 (cl : Nat→Nat) (L : List Nat) (to : Nat) : Nat × List Nat :=
 match L.findIdx? (fun s=>cl s == cl to) with
 | some k=>(k,L)
 | none=>(L.length,L++[to])
def Q3 (cl : Nat→Nat) (nx : Nat→Nat→Nat) (x : Nat) : Nat→List Nat→List Nat × List Nat
 | 0,L=>([],L)
 | j+1,L=>((Q3 cl nx x j L).1++[(aR7 cl (Q3 cl nx x j L).2 (nx x j)).1],(aR7 cl (Q3 cl nx x j L).2 (nx x j)).2)
def aH1 (cl : Nat→Nat) (L : List Nat) : Prop := ∀ i j s t : Nat,L[i]? = some s→L[j]? = some t→cl s = cl t→i = j
theorem cC5 {cl : Nat→Nat} {L : List Nat} (h : aH1 cl L) (to : Nat) : aH1 cl (aR7 cl L to).2∧(∀ i s : Nat,L[i]? = some s→(aR7 cl L to).2[i]? = some s)∧∃ s,(aR7 cl L to).2[(aR7 cl L to).1]? = some s∧cl s = cl to := by
 unfold aR7
 cases hf : L.findIdx? (fun s=>cl s == cl to) with
 | some k =>
  obtain ⟨hk,hk2,_⟩:=List.findIdx?_eq_some_iff_getElem.1 hf
  exact ⟨h,fun i s hs=>hs,_,List.getElem?_eq_getElem hk,by simpa using hk2⟩
 | none =>
  have hn : ∀ (k s : Nat),L[k]? = some s→cl s ≠ cl to:=fun k s hs e=>by
   have:=List.findIdx?_eq_none_iff.1 hf s (List.mem_of_getElem? hs)
   rw[e] at this
   simp at this
  refine ⟨fun i j s t hs ht e=>?_,fun i s hs=>ag9 hs,to,by simp,rfl⟩
  rcases P0 hs with hs | ⟨h1,h2⟩ <;> rcases P0 ht with ht | ⟨h1',h2'⟩
  ·exact h i j s t hs ht e
  ·rw[h2'] at e;exact absurd e (hn i s hs)
  ·rw[h2] at e;exact absurd e.symm (hn j t ht)
  ·omega
theorem aE4 {cl : Nat→Nat} {nx : Nat→Nat→Nat} {x : Nat} {L : List Nat} (h : aH1 cl L) : ∀ j : Nat,aH1 cl (Q3 cl nx x j L).2∧(∀ i s : Nat,L[i]? = some s→(Q3 cl nx x j L).2[i]? = some s)∧(Q3 cl nx x j L).1.length = j∧∀ m : Nat,m < j→∃ k s : Nat,(Q3 cl nx x j L).1[m]? = some k∧(Q3 cl nx x j L).2[k]? = some s∧cl s = cl (nx x m)
 | 0=>⟨h,fun _ _ hs=>hs,rfl,fun m hm=>by omega⟩
 | j+1=>by
  obtain ⟨h1,h2,h3,h4⟩:=aE4 h j
  rw[Q3]
  generalize (Q3 cl nx x j L).1 = R at *
  generalize (Q3 cl nx x j L).2 = M at *
  obtain ⟨g1,g2,s,g3,g4⟩:=cC5 h1 (nx x j)
  refine ⟨g1,fun i s hs=>g2 i s (h2 i s hs),by simp[h3],fun m hm=>?_⟩
  by_cases hmj : m < j
  ·obtain ⟨k,t,e1,e2,e3⟩:=h4 m hmj
   exact ⟨k,t,ag9 e1,g2 k t e2,e3⟩
  ·have : m = j:=by omega
   subst this
   exact ⟨_,s,by show (R++[_])[m]? = _;rw[List.getElem?_append_right (by omega),h3];simp,g3,g4⟩
def goC (cl : Nat→Nat) (nx : Nat→Nat→Nat) : Nat→Nat→List Nat→List Nat→Option (List Nat × List Nat)
 | 0,_,_,_=>none
 | r+1,i,L,R=>match L[i]? with
  | none=>some (L,R)
  | some x=>goC cl nx r (i+1) (Q3 cl nx x 5 L).2 (R++(Q3 cl nx x 5 L).1)
structure MidC (cl : Nat→Nat) (nx : Nat→Nat→Nat) (i : Nat) (L R : List Nat) : Prop where
 dist : aH1 cl L
 le : i≤L.length
 len : R.length = i * 5
 row : ∀ a m : Nat,a < i→m < 5→∃ x k s : Nat,L[a]? = some x∧R[a * 5+m]? = some k∧L[k]? = some s∧cl s = cl (nx x m)
theorem cC6 {l r : List Nat} {k b : Nat} (h : l[k]? = some b) : (l++r)[k]? = some b := by
 rw[List.getElem?_append_left (List.getElem?_eq_some_iff.1 h).1];exact h
theorem bP1 {cl : Nat→Nat} {nx : Nat→Nat→Nat} : ∀ (r i : Nat) (L R : List Nat),MidC cl nx i L R→∀ p,goC cl nx r i L R = some p→MidC cl nx p.1.length p.1 p.2∧∀ a s : Nat,L[a]? = some s→p.1[a]? = some s
 | 0,i,L,R,_,p,hp=>by cases hp
 | r+1,i,L,R,h,p,hp=>by
  rw[goC] at hp
  cases hx : L[i]? with
  | none =>
   rw[hx] at hp
   injection hp with hp
   subst hp
   have h1:=List.getElem?_eq_none_iff.1 hx
   have h2:=h.le
   have : i = L.length:=by omega
   subst this
   exact ⟨h,fun a s hs=>hs⟩
  | some x =>
   rw[hx] at hp
   have hp : goC cl nx r (i+1) (Q3 cl nx x 5 L).2 (R++(Q3 cl nx x 5 L).1) = some p:=hp
   obtain ⟨h1,h2,h3,h4⟩:=aE4 (nx:=nx) (x:=x) h.dist 5
   have hx2:=h2 i x hx
   have hl:=h.len
   obtain ⟨g1,g2⟩:=bP1 r (i+1) _ _ ⟨h1,(List.getElem?_eq_some_iff.1 hx2).1,by rw[List.length_append,h3,hl];omega,fun a m ha hm=>by
    by_cases hai : a < i
    ·obtain ⟨y,k,s,e1,e2,e3,e4⟩:=h.row a m hai hm
     exact ⟨y,k,s,h2 a y e1,cC6 e2,h2 k s e3,e4⟩
    ·have : a = i:=by omega
     subst this
     obtain ⟨k,s,e1,e2,e3⟩:=h4 m hm
     exact ⟨x,k,s,hx2,by rw[List.getElem?_append_right (by omega),hl,show a * 5+m - a * 5 = m by omega];exact e1,e2,e3⟩⟩ p hp
   exact ⟨g1,fun a s hs=>g2 a s (h2 a s hs)⟩
theorem ab2 {cl : Nat→Nat} {n : Nat} (hc : ∀ s,cl s < n) {L : List Nat} (h : aH1 cl L) : L.length≤n := by
 have hnd : (L.map cl).Nodup:=by
  unfold List.Nodup
  rw[List.pairwise_map,List.pairwise_iff_getElem]
  intro i j hi hj hij e
  have:=h i j _ _ (List.getElem?_eq_getElem hi) (List.getElem?_eq_getElem hj) e
  omega
 have:=List.Nodup.length_le_of_subset hnd (l₂:=List.range n) (fun y hy=>by
  obtain ⟨s,_,rfl⟩:=List.mem_map.1 hy
  exact List.mem_range.2 (hc s))
 rwa [List.length_map,List.length_range] at this
theorem bo0 {cl : Nat→Nat} {nx : Nat→Nat→Nat} {n : Nat} (hc : ∀ s,cl s < n) : ∀ (r i : Nat) (L R : List Nat),aH1 cl L→i≤L.length→n+1 - i≤r→∃ p,goC cl nx r i L R = some p
 | 0,i,L,R,h,hi,hr=>by
  have:=ab2 hc h
  omega
 | r+1,i,L,R,h,hi,hr=>by
  rw[goC]
  cases hx : L[i]? with
  | none=>exact ⟨_,rfl⟩
  | some x =>
   obtain ⟨h1,h2,_,_⟩:=aE4 (nx:=nx) (x:=x) h 5
   have:=(List.getElem?_eq_some_iff.1 (h2 i x hx)).1
   exact bo0 hc r (i+1) _ _ h1 this (by omega)
set_option maxRecDepth 20000
theorem Ended.get {N len x} (h : Ended N len x) {s : Nat} (hs : s < len) : ∃ k,x[s]? = some k := by
 obtain ⟨c2,F1,c1,F2,h1,h2,he⟩:=h
 exact h2.get hs
theorem bP2 {N : List Int} {len : Nat} {x L R : List Nat} (hE : Ended N len x) (hN : ∀ i,i < 5 * len→0≤N.getD i 0∧N.getD i 0 < len) (hL : ∀ a s : Nat,L[a]? = some s→s < len)
  (h : MidC (fun s=>x.getD s 0) (fun s m=>(N.getD (s * 5+m) 0).toNat) L.length L R) : ∀ (w : List Nat) (a s s0 : Nat),(∀ m ∈ w,m < 5)→L[a]? = some s→s0 < len→x[s]? = x[s0]?→∃ t,L[goS (R.map fun k : Nat=>(k : Int)) a w]? = some t∧x[t]? = x[goS N s0 w]?
 | [],a,s,s0,_,hs,_,he=>⟨s,hs,he⟩
 | m :: w,a,s,s0,hw,hs,h0,he=>by
  have hm:=hw m (List.mem_cons_self ..)
  have hsl:=hL a s hs
  obtain ⟨y,k,t,e1,e2,e3,e4⟩:=h.row a m (List.getElem?_eq_some_iff.1 hs).1 hm
  rw[hs] at e1
  injection e1 with e1
  subst e1
  have htl:=hL k t e3
  have b1:=hN (s * 5+m) (by omega)
  have b2:=hN (s0 * 5+m) (by omega)
  obtain ⟨p,hp⟩:=hE.get htl
  obtain ⟨q,hq⟩:=hE.get (s:=(N.getD (s * 5+m) 0).toNat) (by omega)
  have e4 : x.getD t 0 = x.getD (N.getD (s * 5+m) 0).toNat 0:=e4
  rw[G8 hp,G8 hq] at e4
  obtain ⟨c,hc⟩:=hE.get hsl
  have e5:=hE.same hN hc (he ▸ hc) hm
  have e6 : (R.map fun k : Nat=>(k : Int)).getD (a * 5+m) 0 = k:=by simp[List.getD,e2]
  obtain ⟨u,u1,u2⟩:=bP2 hE hN hL h w k t (N.getD (s0 * 5+m) 0).toNat (fun z hz=>hw z (List.mem_cons_of_mem _ hz)) e3 (by omega) (by rw[hp,← e5,hq,e4])
  refine ⟨u,?_,u2⟩
  rw[goS,e6]
  exact u1
theorem ch9 {cl : Nat→Nat} {L : List Nat} {to : Nat} {p : Nat→Prop} (h : ∀ s ∈ L,p s) (ht : p to) : ∀ s ∈ (aR7 cl L to).2,p s := by
 unfold aR7
 cases L.findIdx? (fun s=>cl s == cl to) with
 | some k=>exact h
 | none =>
  intro s hs
  rcases List.mem_append.1 hs with hs | hs
  ·exact h s hs
  ·rw[List.mem_singleton.1 hs];exact ht
theorem ax1 {cl : Nat→Nat} {nx : Nat→Nat→Nat} {x : Nat} {L : List Nat} {p : Nat→Prop} (h : ∀ s ∈ L,p s) : ∀ j : Nat,(∀ m,m < j→p (nx x m))→∀ s ∈ (Q3 cl nx x j L).2,p s
 | 0,_=>h
 | j+1,hn=>by
  rw[Q3]
  exact ch9 (ax1 h j (fun m hm=>hn m (by omega))) (hn j (by omega))
theorem bP3 {cl : Nat→Nat} {nx : Nat→Nat→Nat} {p : Nat→Prop} (hn : ∀ x m,p x→m < 5→p (nx x m)) : ∀ (r i : Nat) (L R : List Nat),(∀ s ∈ L,p s)→∀ q,goC cl nx r i L R = some q→∀ s ∈ q.1,p s
 | 0,i,L,R,_,q,hq=>by cases hq
 | r+1,i,L,R,h,q,hq=>by
  rw[goC] at hq
  cases hx : L[i]? with
  | none =>
   rw[hx] at hq
   injection hq with hq
   subst hq
   exact h
  | some x =>
   rw[hx] at hq
   have hq : goC cl nx r (i+1) (Q3 cl nx x 5 L).2 (R++(Q3 cl nx x 5 L).1) = some q:=hq
   exact bP3 hn r (i+1) _ _ (ax1 h 5 (fun m hm=>hn x m (h x (List.mem_of_getElem? hx)) hm)) q hq
set_option maxRecDepth 20000
def Eqv (N : List Int) (A : List Bool) (M : List Int) (B : List Bool) (s t : Nat) : Prop := ∀ w : List Nat,(∀ m ∈ w,m < 5)→A.getD (goS N s w) false = B.getD (goS M t w) false
theorem Eqv.symm {N A M B s t} (h : Eqv N A M B s t) : Eqv M B N A t s := fun w hw=>(h w hw).symm
theorem Eqv.trans {N A M B K C s t u} (h : Eqv N A M B s t) (h' : Eqv M B K C t u) : Eqv N A K C s u := fun w hw=>(h w hw).trans (h' w hw)
theorem Eqv.refl (N A s) : Eqv N A N A s s := fun w hw=>rfl
theorem Eqv.next {N A M B s t m} (h : Eqv N A M B s t) (hm : m < 5) : Eqv N A M B (N.getD (s * 5+m) 0).toNat (M.getD (t * 5+m) 0).toNat := fun w hw=>by
 have:=h (m :: w) (fun y hy=>by
  rcases List.mem_cons.1 hy with rfl | hy
  ·exact hm
  ·exact hw y hy)
 exact this
theorem Eqv.acc {N A M B s t} (h : Eqv N A M B s t) : A.getD s false = B.getD t false := h [] (fun y hy=>(List.not_mem_nil hy).elim)
structure OkD (N : List Int) (A : List Bool) : Prop where
 l : 1≤A.length
 e : ∀ i,i < 5 * A.length→0≤N.getD i 0∧N.getD i 0 < A.length
theorem OkD.next {N A} (h : OkD N A) {s m : Nat} (hs : s < A.length) (hm : m < 5) : (N.getD (s * 5+m) 0).toNat < A.length := by
 have:=h.e (s * 5+m) (by omega)
 omega
theorem OkD.go {N A} (h : OkD N A) : ∀ (w : List Nat) (s : Nat),(∀ m ∈ w,m < 5)→s < A.length→goS N s w < A.length
 | [],s,_,hs=>hs
 | m :: w,s,hw,hs=>h.go w _ (fun y hy=>hw y (List.mem_cons_of_mem _ hy)) (h.next hs (hw m (List.mem_cons_self ..)))
def Rl (E : Nat→Nat→Prop) (L L' : List Nat) : Prop := L.length = L'.length∧∀ i s s' : Nat,L[i]? = some s→L'[i]? = some s'→E s s'
theorem Rl.snoc {E : Nat→Nat→Prop} {L L' : List Nat} (h : Rl E L L') {s s' : Nat} (hs : E s s') : Rl E (L++[s]) (L'++[s']) := by
 refine ⟨by simp[h.1],fun i a a' ha ha'=>?_⟩
 rcases P0 ha with ha | ⟨h1,h2⟩ <;> rcases P0 ha' with ha' | ⟨h1',h2'⟩
 ·exact h.2 i a a' ha ha'
 ·have:=(List.getElem?_eq_some_iff.1 ha).1
  have:=h.1
  omega
 ·have:=(List.getElem?_eq_some_iff.1 ha').1
  have:=h.1
  omega
 ·rw[h2,h2'];exact hs
theorem Rl.get {E : Nat→Nat→Prop} {L L' : List Nat} (h : Rl E L L') (i : Nat) : (L[i]? = none∧L'[i]? = none) ∨ ∃ s s',L[i]? = some s∧L'[i]? = some s'∧E s s' := by
 have hl:=h.1
 by_cases hi : i < L.length
 ·have e1:=List.getElem?_eq_getElem hi
  have e2:=List.getElem?_eq_getElem (l:=L') (i:=i) (by omega)
  exact .inr ⟨_,_,e1,e2,h.2 _ _ _ e1 e2⟩
 ·exact .inl ⟨List.getElem?_eq_none (by omega),List.getElem?_eq_none (by omega)⟩
section
variable {cl cl' : Nat→Nat} {nx nx' : Nat→Nat→Nat} {E : Nat→Nat→Prop} (h1 : ∀ s s' t t',E s s'→E t t'→(cl s = cl t ↔ cl' s' = cl' t')) (h2 : ∀ s s' m,m < 5→E s s'→E (nx s m) (nx' s' m))
include h1 in
include h1 h2 in
include h1 h2 in
end
def Y1 (N : List Int) (A : List Bool) : List Nat := (ar7 N A.length (A.length+2) (ah0 A) 0).getD []
def K7 (N : List Int) (s m : Nat) : Nat := (N.getD (s * 5+m) 0).toNat
def V3 (N : List Int) (A : List Bool) : List Nat × List Nat := (goC (fun s=>(Y1 N A).getD s 0) (K7 N) (A.length+2) 0 [0] []).getD ([],[])
def an2 (N : List Int) (A : List Bool) : List Int := (V3 N A).2.map fun k : Nat=>(k : Int)
def W5 (N : List Int) (A : List Bool) : List Bool := (V3 N A).1.map fun s=>A.getD s false
theorem an3 {N A} (h : OkD N A) : ar7 N A.length (A.length+2) (ah0 A) 0 = some (Y1 N A)∧Agree A A.length (Y1 N A)∧Told N A A.length (Y1 N A)∧Ended N A.length (Y1 N A) := by
 obtain ⟨x,h1,h2,h3,h4⟩:=by0 h.l h.e
 have e : Y1 N A = x:=by rw[Y1,h1];rfl
 rw[e]
 exact ⟨h1,h2,h3,h4⟩
theorem bo1 {N A} (h : OkD N A) (s : Nat) : (Y1 N A).getD s 0 < A.length := by
 obtain ⟨_,_,_,c2,F1,c1,F2,h1,h2,he⟩:=an3 h
 have hl:=h.l
 cases hx : (Y1 N A)[s]? with
 | none=>simp only[List.getD,hx];exact hl
 | some k =>
  have:=(h2.lt hx).2
  have:=h2.most
  simp only[List.getD,hx]
  exact Nat.lt_of_lt_of_le (by assumption) (by assumption)
theorem an4 (cl : Nat→Nat) (s : Nat) : aH1 cl [s] := fun i j a b ha hb _=>by
 have h1:=(List.getElem?_eq_some_iff.1 ha).1
 have h2:=(List.getElem?_eq_some_iff.1 hb).1
 simp at h1 h2
 omega
structure MinOk (N : List Int) (A : List Bool) (L R : List Nat) : Prop where
 run : goC (fun s=>(Y1 N A).getD s 0) (K7 N) (A.length+2) 0 [0] [] = some (L,R)
 mid : MidC (fun s=>(Y1 N A).getD s 0) (K7 N) L.length L R
 head : L[0]? = some 0
 lt : ∀ a s : Nat,L[a]? = some s→s < A.length
theorem aE5 {N A} (h : OkD N A) : MinOk N A (V3 N A).1 (V3 N A).2 := by
 have hl:=h.l
 obtain ⟨p,hp⟩:=bo0 (cl:=fun s=>(Y1 N A).getD s 0) (nx:=K7 N) (n:=A.length) (fun s=>bo1 h s) (A.length+2) 0 [0] [] (an4 _ 0) (by simp) (by omega)
 have e : V3 N A = p:=by rw[V3,hp];rfl
 rw[e]
 obtain ⟨h1,h2⟩:=bP1 _ _ _ _ ⟨an4 _ 0,by simp,rfl,fun a m ha=>by omega⟩ p hp
 have h3:=bP3 (p:=fun s=>s < A.length) (fun x m hx hm=>h.next hx hm) _ _ _ _ (fun s hs=>by rw[List.mem_singleton.1 hs];exact hl) p hp
 exact ⟨hp,h1,h2 0 0 rfl,fun a s hs=>h3 s (List.mem_of_getElem? hs)⟩
theorem ah1 (N A) : (W5 N A).length = (V3 N A).1.length := by simp[W5]
theorem ci0 {N A} (h : OkD N A) : (an2 N A).length = 5 * (W5 N A).length := by
 have:=(aE5 h).mid.len
 rw[an2,List.length_map,ah1]
 omega
theorem cr0 {N A} (h : OkD N A) : 1≤(W5 N A).length∧(W5 N A).length≤A.length := by
 have hm:=aE5 h
 rw[ah1]
 refine ⟨(List.getElem?_eq_some_iff.1 hm.head).1,ab2 (fun s=>bo1 h s) hm.mid.dist⟩
theorem cC7 {N A} (h : OkD N A) {a m : Nat} (ha : a < (W5 N A).length) (hm : m < 5) : ∃ x k s : Nat,(V3 N A).1[a]? = some x∧(an2 N A).getD (a * 5+m) 0 = (k : Int)∧k < (W5 N A).length∧(V3 N A).1[k]? = some s∧(Y1 N A).getD s 0 = (Y1 N A).getD (K7 N x m) 0 := by
 rw[ah1] at ha
 obtain ⟨x,k,s,e1,e2,e3,e4⟩:=(aE5 h).mid.row a m ha hm
 exact ⟨x,k,s,e1,by simp[an2,List.getD,e2],by rw[ah1];exact (List.getElem?_eq_some_iff.1 e3).1,e3,e4⟩
theorem cC8 {N A} (h : OkD N A) : OkD (an2 N A) (W5 N A) := by
 refine ⟨(cr0 h).1,fun i hi=>?_⟩
 obtain ⟨x,k,s,_,e2,e3,_⟩:=cC7 h (a:=i / 5) (m:=i % 5) (by omega) (by omega)
 rw[show i = i / 5 * 5+i % 5 by omega,e2]
 omega
theorem cC9 {N A} {a s : Nat} (hs : (V3 N A).1[a]? = some s) : (W5 N A).getD a false = A.getD s false := by simp[W5,List.getD,hs]
theorem bP4 {N A} (h : OkD N A) {a s : Nat} (hs : (V3 N A).1[a]? = some s) : Eqv N A (an2 N A) (W5 N A) s a := fun w hw=>by
 have hm:=aE5 h
 obtain ⟨_,h2,_,h4⟩:=an3 h
 obtain ⟨t,h5,h6⟩:=bP2 h4 h.e hm.lt hm.mid w a s s hw hs (hm.lt a s hs) rfl
 have h5 : (V3 N A).1[goS (an2 N A) a w]? = some t:=h5
 rw[cC9 h5]
 refine (h2 t _ (hm.lt _ _ h5) (h.go w s hw (hm.lt a s hs)) ?_).symm
 exact congrArg (fun o : Option Nat=>o.getD 0) h6
theorem cD0 {N A} (h : OkD N A) : Eqv N A (an2 N A) (W5 N A) 0 0 := bP4 h (aE5 h).head
end Go.Proofs.YtpmjpogcaglphaaGreatDoor.A
namespace Go.Proofs.YtpmjpogcaglphaaGreatDoor.A
open Go
set_option maxRecDepth 20000
def V4 (w : List Nat) : Nat := w.foldl (fun c m=>5 * c+m+1) 0
theorem aL1 (w : List Nat) (m : Nat) : V4 (w++[m]) = 5 * V4 w+m+1 := by simp[V4]
structure Ent where
 x : Nat
 y : Nat
 b : Int
 m : Nat
 w : List Nat
def dq9 : Ent := ⟨0,0,-1,0,[]⟩
def dD2 (N M : List Int) (i : Nat) (e : Ent) (m : Nat) : Ent := ⟨K7 N e.x m,K7 M e.y m,i,m,e.w++[m]⟩
def bP5 (l : List Ent) (e : Ent) : List Ent := if l.any (fun p=>p.x == e.x && p.y == e.y) then l else l++[e]
structure QMid (N : List Int) (A : List Bool) (M : List Int) (B : List Bool) (i : Nat) (l : List Ent) (c : Nat) : Prop where
 head : l[0]? = some dq9
 back : ∀ (k : Nat) e,l[k]? = some e→0 < k→∃ (j : Nat) (f : Ent),e.b = (j : Int)∧j < k∧e.m < 5∧l[j]? = some f∧e.w = f.w++[e.m]
 word : ∀ e ∈ l,(∀ z ∈ e.w,z < 5)∧goS N 0 e.w = e.x∧goS M 0 e.w = e.y
 mono : ∀ (j k : Nat) e f,l[j]? = some e→l[k]? = some f→j < k→V4 e.w < V4 f.w
 top : ∀ e ∈ l,V4 e.w < c
 done : ∀ (k : Nat) e,k < i→l[k]? = some e→A.getD e.x false = B.getD e.y false∧∀ m,m < 5→∃ f ∈ l,f.x = K7 N e.x m∧f.y = K7 M e.y m∧V4 f.w≤5 * V4 e.w+m+1
 uniq : ∀ (j k : Nat) e f,l[j]? = some e→l[k]? = some f→e.x = f.x→e.y = f.y→j = k
theorem an5 (N : List Int) : ∀ (w : List Nat) (s m : Nat),goS N s (w++[m]) = K7 N (goS N s w) m
 | [],_,_=>rfl
 | a :: w,s,m=>by
  rw[List.cons_append,goS,goS]
  exact an5 N w _ m
theorem ax2 {l : List Ent} {e f : Ent} {k : Nat} (h : l[k]? = some f) : (bP5 l e)[k]? = some f := by
 unfold bP5
 split
 ·exact h
 ·exact ag9 h
theorem bo2 {l : List Ent} {e f : Ent} (h : f ∈ l) : f ∈ bP5 l e := by
 unfold bP5
 split
 ·exact h
 ·exact List.mem_append_left _ h
theorem ar8 {l : List Ent} {e f : Ent} {k : Nat} (h : (bP5 l e)[k]? = some f) : l[k]? = some f ∨ (k = l.length∧f = e∧∀ p ∈ l,¬ (p.x = e.x∧p.y = e.y)) := by
 unfold bP5 at h
 split at h
 ·exact .inl h
 ·rename_i hn
  rcases P0 h with h | ⟨h1,h2⟩
  ·exact .inl h
  ·refine .inr ⟨h1,h2,fun p hp hc=>hn ?_⟩
   rw[List.any_eq_true]
   exact ⟨p,hp,by simp[hc.1,hc.2]⟩
theorem cD1 (l : List Ent) (e : Ent) : ∃ f ∈ bP5 l e,f.x = e.x∧f.y = e.y∧(f ∈ l ∨ f = e) := by
 unfold bP5
 split
 ·rename_i h
  obtain ⟨p,hp,h⟩:=List.any_eq_true.1 h
  simp only[Bool.and_eq_true,beq_iff_eq] at h
  exact ⟨p,hp,h.1,h.2,.inl hp⟩
 ·exact ⟨e,by simp,rfl,rfl,.inr rfl⟩
theorem bo3 {l : List Ent} {e : Ent} {p : Ent→Prop} (h : ∀ f ∈ l,p f) (he : p e) : ∀ f ∈ bP5 l e,p f := by
 unfold bP5
 split
 ·exact h
 ·intro f hf
  rcases List.mem_append.1 hf with hf | hf
  ·exact h f hf
  ·rw[List.mem_singleton.1 hf];exact he
structure QRow (N : List Int) (A : List Bool) (M : List Int) (B : List Bool) (i : Nat) (e : Ent) (j : Nat) (l : List Ent) : Prop where
 mid : QMid N A M B i l (5 * V4 e.w+j+1)
 at_ : l[i]? = some e
 acc : A.getD e.x false = B.getD e.y false
 row : ∀ m,m < j→∃ f ∈ l,f.x = K7 N e.x m∧f.y = K7 M e.y m∧V4 f.w≤5 * V4 e.w+m+1
theorem QRow.step {N A M B i e j l} (h : QRow N A M B i e j l) (hj : j < 5) : QRow N A M B i e (j+1) (bP5 l (dD2 N M i e j)) := by
 have hw:=h.mid.word e (List.mem_of_getElem? h.at_)
 have hc : V4 (dD2 N M i e j).w = 5 * V4 e.w+j+1:=aL1 e.w j
 refine ⟨⟨ax2 h.mid.head,fun k f hk hp=>?_,bo3 h.mid.word ⟨fun z hz=>?_,?_,?_⟩,fun a b f g hf hg hab=>?_,bo3 (fun f hf=>by have:=h.mid.top f hf;omega) (by rw[hc];omega),fun k f hk hf=>?_,fun a b f g hf hg ex ey=>?_⟩,ax2 h.at_,h.acc,fun m hm=>?_⟩
 ·rcases ar8 hk with hk | ⟨h1,h2,_⟩
  ·obtain ⟨q,g,e1,e2,e3,e4,e5⟩:=h.mid.back k f hk hp
   exact ⟨q,g,e1,e2,e3,ax2 e4,e5⟩
  ·subst h2
   refine ⟨i,e,rfl,?_,hj,ax2 h.at_,rfl⟩
   rw[h1]
   exact (List.getElem?_eq_some_iff.1 h.at_).1
 ·have hz : z ∈ e.w++[j]:=hz
  rcases List.mem_append.1 hz with hz | hz
  ·exact hw.1 z hz
  ·rw[List.mem_singleton.1 hz];exact hj
 ·show goS N 0 (e.w++[j]) = _
  rw[an5,hw.2.1];rfl
 ·show goS M 0 (e.w++[j]) = _
  rw[an5,hw.2.2];rfl
 ·rcases ar8 hf with hf | ⟨h1,h2,_⟩ <;> rcases ar8 hg with hg | ⟨h1',h2',_⟩
  ·exact h.mid.mono a b f g hf hg hab
  ·rw[h2',hc]
   exact h.mid.top f (List.mem_of_getElem? hf)
  ·have:=(List.getElem?_eq_some_iff.1 hg).1
   omega
  ·omega
 ·rcases ar8 hf with hf | ⟨h1,_,_⟩
  ·obtain ⟨g1,g2⟩:=h.mid.done k f hk hf
   refine ⟨g1,fun m hm=>?_⟩
   obtain ⟨g,hg,e1,e2,e3⟩:=g2 m hm
   exact ⟨g,bo2 hg,e1,e2,e3⟩
  ·have:=(List.getElem?_eq_some_iff.1 h.at_).1
   omega
 ·rcases ar8 hf with hf | ⟨h1,h2,h3⟩ <;> rcases ar8 hg with hg | ⟨h1',h2',h3'⟩
  ·exact h.mid.uniq a b f g hf hg ex ey
  ·subst h2'
   exact absurd ⟨ex,ey⟩ (h3' f (List.mem_of_getElem? hf))
  ·subst h2
   exact absurd ⟨ex.symm,ey.symm⟩ (h3 g (List.mem_of_getElem? hg))
  ·omega
 ·by_cases hmj : m < j
  ·obtain ⟨g,hg,e1,e2,e3⟩:=h.row m hmj
   exact ⟨g,bo2 hg,e1,e2,e3⟩
  ·have : m = j:=by omega
   subst this
   obtain ⟨f,hf,e1,e2,e3⟩:=cD1 l (dD2 N M i e m)
   refine ⟨f,hf,e1,e2,?_⟩
   rcases e3 with e3 | e3
   ·have:=h.mid.top f e3
    omega
   ·rw[e3,hc];exact Nat.le_refl _
theorem QMid.weak {N A M B i l c c'} (h : QMid N A M B i l c) (hc : ∀ e ∈ l,V4 e.w < c') : QMid N A M B i l c' := ⟨h.head,h.back,h.word,h.mono,hc,h.done,h.uniq⟩
theorem QRow.next {N A M B i e l} (h : QRow N A M B i e 5 l) : ∀ e',l[i+1]? = some e'→QMid N A M B (i+1) l (5 * V4 e'.w+1) := fun e' he'=>by
 refine ⟨h.mid.head,h.mid.back,h.mid.word,h.mid.mono,fun f hf=>?_,fun k f hk hf=>?_,h.mid.uniq⟩
 ·have:=h.mid.top f hf
  have:=h.mid.mono i (i+1) e e' h.at_ he' (by omega)
  omega
 ·by_cases hki : k < i
  ·exact h.mid.done k f hki hf
  ·have : k = i:=by omega
   subst this
   rw[h.at_] at hf
   injection hf with hf
   subst hf
   exact ⟨h.acc,h.row⟩
theorem QRow.done {N A M B i e l} (h : QRow N A M B i e 5 l) : QMid N A M B (i+1) l (5 * V4 e.w+6) := by
 refine ⟨h.mid.head,h.mid.back,h.mid.word,h.mid.mono,h.mid.top,fun k f hk hf=>?_,h.mid.uniq⟩
 by_cases hki : k < i
 ·exact h.mid.done k f hki hf
 ·have : k = i:=by omega
  subst this
  rw[h.at_] at hf
  injection hf with hf
  subst hf
  exact ⟨h.acc,h.row⟩
theorem QMid.start (N A M B) : QMid N A M B 0 [dq9] 1 := by
 refine ⟨rfl,fun k e hk hp=>?_,fun e he=>?_,fun j k e f he hf hjk=>?_,fun e he=>?_,fun k e hk=>by omega,fun j k e f he hf _ _=>?_⟩
 ·have:=(List.getElem?_eq_some_iff.1 hk).1
  simp at this
  omega
 ·rw[List.mem_singleton.1 he]
  exact ⟨fun z hz=>by simp[dq9] at hz,rfl,rfl⟩
 ·have:=(List.getElem?_eq_some_iff.1 hf).1
  simp at this
  omega
 ·rw[List.mem_singleton.1 he]
  exact Nat.zero_lt_one
 ·have h1:=(List.getElem?_eq_some_iff.1 he).1
  have h2:=(List.getElem?_eq_some_iff.1 hf).1
  simp at h1 h2
  omega
theorem QMid.few {N A M B i l c} (h : QMid N A M B i l c) (hA : OkD N A) (hB : OkD M B) : l.length≤A.length * B.length∧∀ e ∈ l,e.x < A.length∧e.y < B.length := by
 have hin : ∀ e ∈ l,e.x < A.length∧e.y < B.length:=fun e he=>by
  obtain ⟨h1,h2,h3⟩:=h.word e he
  rw[← h2,← h3]
  exact ⟨hA.go _ _ h1 hA.l,hB.go _ _ h1 hB.l⟩
 refine ⟨?_,hin⟩
 have hnd : (l.map fun e=>e.x * B.length+e.y).Nodup:=by
  unfold List.Nodup
  rw[List.pairwise_map,List.pairwise_iff_getElem]
  intro a b ha hb hab e
  have h1:=hin l[a] (List.getElem_mem ..)
  have h2:=hin l[b] (List.getElem_mem ..)
  have e1 : l[a].x = l[b].x:=by
   have:=congrArg (· / B.length) e
   (try simp only at this)
   rw[Nat.mul_comm l[a].x,Nat.mul_comm l[b].x,Nat.mul_add_div (by omega),Nat.mul_add_div (by omega),Nat.div_eq_of_lt h1.2,Nat.div_eq_of_lt h2.2] at this
   simpa using this
  have e2 : l[a].y = l[b].y:=by rw[e1] at e;omega
  have:=h.uniq a b _ _ (List.getElem?_eq_getElem ha) (List.getElem?_eq_getElem hb) e1 e2
  omega
 have:=List.Nodup.length_le_of_subset hnd (l₂:=List.range (A.length * B.length)) (fun y hy=>by
  obtain ⟨e,he,rfl⟩:=List.mem_map.1 hy
  have:=hin e he
  rw[List.mem_range]
  have h2 : (e.x+1) * B.length≤A.length * B.length:=Nat.mul_le_mul_right _ this.1
  have h3 : (e.x+1) * B.length = e.x * B.length+B.length:=by rw[Nat.add_mul,Nat.one_mul]
  omega)
 rwa [List.length_map,List.length_range] at this
theorem by1 (w : List Nat) : w = [] ∨ ∃ v m,w = v++[m] := by
 rcases List.eq_nil_or_concat w with h | ⟨v,m,h⟩
 ·exact .inl h
 ·exact .inr ⟨v,m,by simpa using h⟩
theorem QMid.leads {N A M B i l c} (h : QMid N A M B i l c) (hi : 0 < i) : ∀ (n : Nat) (u : List Nat),u.length = n→(∀ z ∈ u,z < 5)→(∀ f ∈ l,V4 f.w≤V4 u→∃ k,k < i∧l[k]? = some f)→∃ k e,k < i∧l[k]? = some e∧e.x = goS N 0 u∧e.y = goS M 0 u∧V4 e.w≤V4 u
 | n,u,hn,hu,hb=>by
  rcases by1 u with rfl | ⟨v,m,rfl⟩
  ·exact ⟨0,dq9,hi,h.head,rfl,rfl,Nat.le_refl _⟩
  ·match n,hn with
   | 0,hn=>simp at hn
   | n+1,hn =>
    have hm : m < 5:=hu m (by simp)
    have hc:=aL1 v m
    obtain ⟨k,e,h1,h2,h3,h4,h5⟩:=QMid.leads h hi n v (by simpa using hn) (fun z hz=>hu z (by simp[hz])) (fun f hf hle=>hb f hf (by omega))
    obtain ⟨_,h6⟩:=h.done k e h1 h2
    obtain ⟨f,hf,e1,e2,e3⟩:=h6 m hm
    obtain ⟨k',g1,g2⟩:=hb f hf (by omega)
    exact ⟨k',f,g1,g2,by rw[an5,e1,h3],by rw[an5,e2,h4],by omega⟩
def dD3 (N : List Int) (A : List Bool) (M : List Int) (B : List Bool) : Option (List Nat)→Prop
 | none=>Eqv N A M B 0 0
 | some w=>(∀ z ∈ w,z < 5)∧A.getD (goS N 0 w) false ≠ B.getD (goS M 0 w) false∧∀ u : List Nat,(∀ z ∈ u,z < 5)→V4 u < V4 w→A.getD (goS N 0 u) false = B.getD (goS M 0 u) false
theorem QMid.all {N A M B l c} (h : QMid N A M B l.length l c) : Eqv N A M B 0 0 := fun u hu=>by
 have hp : 0 < l.length:=(List.getElem?_eq_some_iff.1 h.head).1
 obtain ⟨k,e,h1,h2,h3,h4,_⟩:=h.leads hp _ u rfl hu (fun f hf _=>by
  obtain ⟨k,hk,e⟩:=List.getElem_of_mem hf
  exact ⟨k,hk,by rw[List.getElem?_eq_getElem hk,e]⟩)
 rw[← h3,← h4]
 exact (h.done k e h1 h2).1
theorem QMid.first {N A M B i l c e} (h : QMid N A M B i l c) (he : l[i]? = some e) (hd : A.getD e.x false ≠ B.getD e.y false) : dD3 N A M B (some e.w) := by
 obtain ⟨h1,h2,h3⟩:=h.word e (List.mem_of_getElem? he)
 refine ⟨h1,by rw[h2,h3];exact hd,fun u hu hlt=>?_⟩
 have hi : 0 < i:=by
  by_cases hc : 0 < i
  ·exact hc
  ·have : i = 0:=by omega
   subst this
   rw[h.head] at he
   injection he with he
   subst he
   exact absurd hlt (Nat.not_lt_zero _)
 obtain ⟨k,f,g1,g2,g3,g4,_⟩:=h.leads hi _ u rfl hu (fun f hf hle=>by
  obtain ⟨k,hk,e2⟩:=List.getElem_of_mem hf
  have hk2 : l[k]? = some f:=by rw[List.getElem?_eq_getElem hk,e2]
  refine ⟨k,?_,hk2⟩
  by_cases hki : k < i
  ·exact hki
  ·by_cases hke : k = i
   ·subst hke
    rw[he] at hk2
    injection hk2 with hk2
    subst hk2
    omega
   ·have:=h.mono i k e f he hk2 (by omega)
    omega)
 rw[← g3,← g4]
 exact (h.done k f g1 g2).1
end Go.Proofs.YtpmjpogcaglphaaGreatDoor.A
