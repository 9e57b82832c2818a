/- The document's matching: sets of places; one, both. -/
import Derived.Test.YtpmjpogcaglphaaGreatDoorMLMCompiles39
import Derived.Test.YtpmjpogcaglphaaGreatDoorMLMCompiles41
set_option linter.unusedVariables false
set_option linter.unusedSimpArgs false
set_option linter.unnecessarySimpa false
namespace Go.Proofs.YtpmjpogcaglphaaGreatDoor.A
open Go
set_option maxRecDepth 20000
open Classical in
noncomputable def B0 (M : Nat→Nat→Prop) (b : List Bool) : List Bool := (List.range b.length).map fun j=>decide (∃ i,b.getD i false = true∧M i j)
theorem E7 {n : Nat} (f : Nat→Bool) (j : Nat) : ((List.range n).map f).getD j false = (decide (j < n) && f j) := by
 rw[List.getD_eq_getElem?_getD,List.getElem?_map]
 by_cases h : j < n
 ·rw[List.getElem?_range h];simp[h]
 ·rw[List.getElem?_eq_none (by simp;omega)];simp[h]
theorem p7 (M b) : (B0 M b).length = b.length := by simp[B0]
theorem N1 {M : Nat→Nat→Prop} {b : List Bool} {j : Nat} : (B0 M b).getD j false = true ↔ j < b.length∧∃ i,b.getD i false = true∧M i j := by
 classical
 rw[B0,E7,Bool.and_eq_true,decide_eq_true_eq,decide_eq_true_eq]
theorem U9 {a b : List Bool} (hl : a.length = b.length) (h : ∀ j,j < b.length→(a.getD j false = true ↔ b.getD j false = true)) : a = b := by
 refine List.ext_getElem hl fun j h1 h2=>?_
 have e1 : a.getD j false = a[j]:=by simp[List.getD,h1]
 have e2 : b.getD j false = b[j]:=by simp[List.getD,h2]
 rw[Bool.eq_iff_iff,← e1,← e2]
 exact h j h2
theorem aF5 {M : Nat→Nat→Prop} {b c : List Bool} (hl : c.length = b.length) (h : ∀ j,j < b.length→(c.getD j false = true ↔ ∃ i,b.getD i false = true∧M i j)) : c = B0 M b :=
 U9 (by rw[hl,p7]) fun j hj=>by
  rw[p7] at hj
  rw[h j hj,N1]
  exact ⟨fun g=>⟨hj,g⟩,fun g=>g.2⟩
theorem as3 {b : List Bool} {i : Nat} (h : b.getD i false = true) : i < b.length := by
 by_cases hi : i < b.length
 ·exact hi
 ·rw[List.getD_eq_getElem?_getD,List.getElem?_eq_none (by omega)] at h
  cases h
theorem ao3 (b : List Bool) (i j : Nat) (x : Bool) : (b.set i x).getD j false = if i = j∧j < b.length then x else b.getD j false := by
 rw[List.getD_eq_getElem?_getD,List.getD_eq_getElem?_getD,List.getElem?_set]
 by_cases h1 : i = j
 ·subst h1
  by_cases h2 : i < b.length
  ·simp[h2]
  ·simp[h2]
 ·simp[h1]
def orB (a b : List Bool) : List Bool := (List.range a.length).map fun i=>a.getD i false || b.getD i false
def ah5 (a b : List Bool) : Bool := (List.range a.length).any fun i=>b.getD i false && !a.getD i false
theorem O5 (a b) : (orB a b).length = a.length := by simp[orB]
theorem bh7 {a b : List Bool} (hl : b.length≤a.length) (j : Nat) : (orB a b).getD j false = true ↔ a.getD j false = true ∨ b.getD j false = true := by
 rw[orB,E7,Bool.and_eq_true,decide_eq_true_eq,Bool.or_eq_true]
 constructor
 ·exact fun h=>h.2
 ·intro h
  refine ⟨?_,h⟩
  rcases h with h | h
  ·exact as3 h
  ·have:=as3 h;omega
theorem ba6 {a b : List Bool} (hl : b.length≤a.length) : ah5 a b = true ↔ ∃ i,b.getD i false = true∧a.getD i false = false := by
 rw[ah5,List.any_eq_true]
 constructor
 ·rintro ⟨i,_,h⟩
  rw[Bool.and_eq_true,Bool.not_eq_true'] at h
  exact ⟨i,h⟩
 ·rintro ⟨i,h1,h2⟩
  have:=as3 h1
  exact ⟨i,List.mem_range.2 (by omega),by rw[h1,h2];rfl⟩
theorem cm7 (X) : d9 (EX md0 X) (fun _=>none) 2 Tryz.f32 = true := by kernel_rfl
def aQ6 (n : Nat) : List Bool := (List.replicate n false).set 0 true
theorem cH7 (n : Nat) (h0 : 0 < n) (hn : n≤10000000) : Ok Tryz.prog 32 [.int .i64 n,.int .i64 0] (slB (aQ6 n)) := by
 refine m7 (E:=EX md0 (fun _ _=>none)) (cr:=noR) (z8 _) (q7 _) mixed (k:=10) Tryz.func32 (cm7 _) rfl ?_
 have hs : w9 (cB (List.replicate n false)) 0 [.bool true] = cB (aQ6 n):=aB2 _ 0 true (by simpa using h0)
 have hl : (aQ6 n).length = n:=by simp[aQ6]
 have htk : (cB (aQ6 n)).take n = cB (aQ6 n):=j7 (by rw[A3,hl])
 have hz:=J5 n
 simp only[Tryz.f32,Option.getD_some]
 simp (disch:=omega) only[go_sem,hz,hs,hl,htk]
 rw[slB,hl]
def orT (a b : List Bool) (k : Nat) : List Bool := (List.range a.length).map fun i=>if i < k then a.getD i false || b.getD i false else a.getD i false
def bU3 (a b : List Bool) (k : Nat) : Bool := (List.range k).any fun i=>b.getD i false && !a.getD i false
theorem O6 (a b k) : (orT a b k).length = a.length := by simp[orT]
theorem cm8 (a b) : orT a b 0 = a := U9 (O6 a b 0) fun j hj=>by rw[orT,E7];simp[hj]
theorem cm9 (a b) : orT a b a.length = orB a b := U9 (by rw[O6,O5]) fun j hj=>by
 rw[O5] at hj
 rw[orT,orB,E7,E7];simp[hj]
theorem bU4 (a b : List Bool) (k : Nat) (hk : k < a.length) : (orT a b k).getD k false = a.getD k false := by
 rw[orT,E7];simp[hk]
theorem cn0 (a b : List Bool) (k : Nat) (hk : k < a.length) : orT a b (k+1) = if b.getD k false && !a.getD k false then (orT a b k).set k true else orT a b k := by
 refine U9 ?_ fun j hj=>?_
 ·rw[O6];split <;> simp[O6]
 ·have hja : j < a.length:=by
   split at hj <;> simp[O6] at hj <;> exact hj
  rw[orT,E7]
  by_cases hjk : j = k
  ·subst hjk
   have e0:=bU4 a b j hja
   rw[if_pos (by omega),decide_eq_true hja,Bool.true_and]
   cases h1 : b.getD j false <;> cases h2 : a.getD j false <;> rw[h2] at e0
   ·rw[if_neg (by decide),e0];decide
   ·rw[if_neg (by decide),e0];decide
   ·rw[if_pos (by decide),ao3,if_pos ⟨rfl,by rw[O6];exact hja⟩];decide
   ·rw[if_neg (by decide),e0];decide
  ·have e : (if j < k+1 then a.getD j false || b.getD j false else a.getD j false) = (if j < k then a.getD j false || b.getD j false else a.getD j false):=by
    by_cases h : j < k
    ·rw[if_pos h,if_pos (by omega)]
    ·rw[if_neg h,if_neg (by omega)]
   rw[e]
   have e1 : (orT a b k).getD j false = (decide (j < a.length) && (if j < k then a.getD j false || b.getD j false else a.getD j false)):=by rw[orT,E7]
   by_cases hc : (b.getD k false && !a.getD k false) = true
   ·have e2 : (if k = j∧j < (orT a b k).length then true else (orT a b k).getD j false) = (orT a b k).getD j false:=if_neg (fun e=>hjk e.1.symm)
    rw[if_pos hc,ao3,e2,e1]
   ·rw[if_neg hc,e1]
theorem bA1 (a b : List Bool) (k : Nat) : bU3 a b (k+1) = (bU3 a b k || (b.getD k false && !a.getD k false)) := by
 rw[bU3,List.range_succ,List.any_append]
 simp[bU3]
theorem cn1 (X) : d9 (EX md0 X) (fun _=>none) 2 Tryz.f64 = true := by kernel_rfl
theorem cH8 (a b : List Bool) (hl : b.length = a.length) (hn : a.length≤10000000) : Ok Tryz.prog 64 [slB a,slB b] (.tup [slB (orB a b),.bool (ah5 a b)]) := by
 refine m7 (E:=EX md0 (fun _ _=>none)) (cr:=noR) (z8 _) (q7 _) mixed (k:=10000010) Tryz.func64 (cn1 _) rfl ?_
 have htk : (cB a).take a.length = cB a:=j7 (A3 a)
 simp only[Tryz.f64,Option.getD_some]
 simp (disch:=omega) only[go_sem,htk]
 refine o9 (fun m a' o nx=>∃ i : Nat,i≤a.length∧m = a.length - i∧2≤nx∧a' 1 = slB b∧a' 6 = .ref (1,9) (1,11) 0 a.length∧a' 7 = .bool (bU3 a b i)∧a' 8 = .int .i64 i∧o (1,9) = some (.row ⟨4,1,(1,11),false,true,cB (orT a b i)⟩)) a.length (by omega) ⟨0,by omega,by omega,by omega,by simp (disch:=omega) only[go_sem],by simp (disch:=omega) only[go_sem],by simp (disch:=omega) only[go_sem];rfl,by simp (disch:=omega) only[go_sem],by simp (disch:=omega) only[go_sem];rw[cm8]⟩ ?_
 rintro m a' o nx ⟨i,hi,rfl,hnx,a1,a6,a7,a8,ho⟩
 have hlt':=O6 a b i
 by_cases hlt : i < a.length
 ·have hgb:=L3 (l:=b) (s:=1) (show i < b.length by omega)
  have hga:=L3 (l:=orT a b i) (s:=1) (show i < (orT a b i).length by omega)
  rw[bU4 a b i hlt] at hga
  have hset:=aB2 (orT a b i) i true (by omega)
  have hsn:=cn0 a b i hlt
  have hmn:=bA1 a b i
  cases h1 : b.getD i false <;> cases h2 : a.getD i false <;> rw[h1] at hgb <;> rw[h2] at hga <;> rw[h1,h2] at hsn hmn
  ·simp (disch:=omega) only[go_sem,a1,a6,a7,a8,ho,hgb,hga,hl,hlt']
   exact ⟨_,by omega,i+1,by omega,rfl,by rw[hmn];simp,rfl,by rw[hsn];rfl⟩
  ·simp (disch:=omega) only[go_sem,a1,a6,a7,a8,ho,hgb,hga,hl,hlt']
   exact ⟨_,by omega,i+1,by omega,rfl,by rw[hmn];simp,rfl,by rw[hsn];rfl⟩
  ·simp (disch:=omega) only[go_sem,a1,a6,a7,a8,ho,hgb,hga,hl,hlt',hset]
   exact ⟨_,by omega,i+1,by omega,rfl,by rw[hmn];simp,rfl,by rw[hsn];rfl⟩
  ·simp (disch:=omega) only[go_sem,a1,a6,a7,a8,ho,hgb,hga,hl,hlt']
   exact ⟨_,by omega,i+1,by omega,rfl,by rw[hmn];simp,rfl,by rw[hsn];rfl⟩
 ·have hie : i = a.length:=by omega
  rw[hie] at a7 ho
  rw[cm9] at ho
  have htk2 : (cB (orB a b)).take a.length = cB (orB a b):=j7 (by rw[A3,O5])
  have hol:=O5 a b
  simp (disch:=omega) only[go_sem,a1,a6,a7,a8,ho,hl,hol,htk2]
  rw[slB,O5]
  rfl
end Go.Proofs.YtpmjpogcaglphaaGreatDoor.A
namespace Go.Proofs.YtpmjpogcaglphaaGreatDoor.A
open Go
set_option maxRecDepth 20000
theorem Iter.snoc_iff {R : Nat→Nat→Prop} : ∀ {m i j},Iter R (m+1) i j ↔ ∃ k,Iter R m i k∧R k j
 | 0,i,j=>⟨fun ⟨k,h1,h2⟩=>⟨i,rfl,by obtain rfl : k = j:=h2;exact h1⟩,fun ⟨k,h1,h2⟩=>⟨j,by obtain rfl : i = k:=h1;exact h2,rfl⟩⟩
 | m+1,i,j=>⟨fun ⟨k,h1,h2⟩=>by
   obtain ⟨k',h3,h4⟩:=Iter.snoc_iff.1 h2
   exact ⟨k',⟨k,h1,h3⟩,h4⟩,fun ⟨k',⟨k,h1,h3⟩,h4⟩=>⟨k,h1,Iter.snoc_iff.2 ⟨k',h3,h4⟩⟩⟩
theorem Iter.le {R : Nat→Nat→Prop} {n : Nat} (hR : ∀ i j,R i j→i≤n→j≤n) : ∀ {m i j},Iter R m i j→i≤n→j≤n
 | 0,i,j,h,hi=>by obtain rfl : i = j:=h;exact hi
 | m+1,i,j,⟨k,h1,h2⟩,hi=>Iter.le hR h2 (hR i k h1 hi)
theorem cn2 (w : List Int) : ∀ (x : Nd) (i j : Nat),Mt w x i j→i≤w.length→j≤w.length
 | .mk k s lo hi l,i,j,h,hi'=>by
  have hkid : ∀ x ∈ l,∀ i j,Mt w x i j→i≤w.length→j≤w.length:=fun x hm i j=>by
   have : SizeOf.sizeOf x < SizeOf.sizeOf (Nd.mk k s lo hi l):=by
    have:=List.sizeOf_lt_of_mem hm
    simp only[Nd.mk.sizeOf_spec]
    omega
   exact cn2 w x i j
  have hJ : ∀ (l' : List Nd),(∀ x ∈ l',∀ i j,Mt w x i j→i≤w.length→j≤w.length)→∀ i j,MtJ w l' i j→i≤w.length→j≤w.length:=by
   intro l'
   induction l' with
   | nil=>intro _ i j h hi;rw[MtJ] at h;obtain rfl : i = j:=h;exact hi
   | cons x l' ih =>
    intro hl i j h hi
    rw[MtJ] at h
    obtain ⟨k,h1,h2⟩:=h
    exact ih (fun y hy=>hl y (List.mem_cons_of_mem _ hy)) k j h2 (hl x (by simp) i k h1 hi)
  have hU : ∀ (l' : List Nd),(∀ x ∈ l',∀ i j,Mt w x i j→i≤w.length→j≤w.length)→∀ i j,MtU w l' i j→i≤w.length→j≤w.length:=by
   intro l'
   induction l' with
   | nil=>intro _ i j h hi;rw[MtU] at h;exact h.elim
   | cons x l' ih =>
    intro hl i j h hi
    rw[MtU] at h
    rcases h with h | h
    ·exact hl x (by simp) i j h hi
    ·exact ih (fun y hy=>hl y (List.mem_cons_of_mem _ hy)) i j h hi
  have hH : ∀ i j,MtH w l i j→i≤w.length→j≤w.length:=by
   intro i j h hi
   cases l with
   | nil=>rw[MtH] at h;exact h.elim
   | cons x l=>rw[MtH] at h;exact hkid x (by simp) i j h hi
  rw[Mt] at h
  split at h
  ·obtain ⟨rfl,h1,_⟩:=h;omega
  split at h
  ·omega
  split at h
  ·exact hJ l hkid i j h hi'
  split at h
  ·exact hU l hkid i j h hi'
  split at h
  ·obtain ⟨m,h⟩:=h;exact Iter.le hH h hi'
  split at h
  ·obtain ⟨m,_,h⟩:=h;exact Iter.le hH h hi'
  split at h
  ·obtain ⟨m,_,h⟩:=h;exact Iter.le hH h hi'
  split at h
  ·obtain ⟨m,_,_,h⟩:=h;exact Iter.le hH h hi'
  ·exact h.elim
termination_by x=>SizeOf.sizeOf x
decreasing_by
 exact this
theorem aF6 {M1 M2 : Nat→Nat→Prop} {b : List Bool} (h : ∀ i k,M1 i k→i < b.length→k < b.length) : B0 M2 (B0 M1 b) = B0 (fun i j=>∃ k,M1 i k∧M2 k j) b := by
 refine aF5 (by rw[p7,p7]) fun j hj=>?_
 rw[N1,p7]
 constructor
 ·rintro ⟨_,k,h1,h2⟩
  obtain ⟨_,i,h3,h4⟩:=N1.1 h1
  exact ⟨i,h3,k,h4,h2⟩
 ·rintro ⟨i,h3,k,h4,h2⟩
  exact ⟨hj,k,N1.2 ⟨h i k h4 (as3 h3),i,h3,h4⟩,h2⟩
theorem y8 {M M' : Nat→Nat→Prop} {b : List Bool} (h : ∀ i j,M i j ↔ M' i j) : B0 M b = B0 M' b := by
 rw[show M = M' from funext fun i=>funext fun j=>propext (h i j)]
theorem aF7 (M1 M2 : Nat→Nat→Prop) (b : List Bool) : orB (B0 M1 b) (B0 M2 b) = B0 (fun i j=>M1 i j ∨ M2 i j) b := by
 refine aF5 (by rw[O5,p7]) fun j hj=>?_
 rw[bh7 (by rw[p7,p7];exact Nat.le_refl _),N1,N1]
 constructor
 ·rintro (⟨_,i,h1,h2⟩ | ⟨_,i,h1,h2⟩)
  ·exact ⟨i,h1,.inl h2⟩
  ·exact ⟨i,h1,.inr h2⟩
 ·rintro ⟨i,h1,h2 | h2⟩
  ·exact .inl ⟨hj,i,h1,h2⟩
  ·exact .inr ⟨hj,i,h1,h2⟩
theorem af1 (b : List Bool) : B0 (fun i j=>i = j) b = b := (aF5 rfl fun j _=>⟨fun h=>⟨j,h,rfl⟩,fun ⟨i,h,e⟩=>e ▸ h⟩).symm
theorem as4 (b : List Bool) : B0 (fun _ _=>False) b = List.replicate b.length false := (aF5 (by simp) fun j hj=>by simp[List.getD_eq_getElem?_getD,hj]).symm
def bA2 (l : List Bool) : Nat := (List.range l.length).countP fun j=>l.getD j false
theorem ba7 {p q : Nat→Bool} (h : ∀ j,p j = true→q j = true) (j0 : Nat) (h1 : q j0 = true) (h2 : p j0 = false) : ∀ n,(List.range n).countP p≤(List.range n).countP q∧(j0 < n→(List.range n).countP p+1≤(List.range n).countP q)
 | 0=>⟨by simp,fun h=>by omega⟩
 | n+1=>by
  obtain ⟨g1,g2⟩:=ba7 h j0 h1 h2 n
  rw[List.range_succ,List.countP_append,List.countP_append,List.countP_singleton,List.countP_singleton]
  have hpq : (if p n = true then 1 else 0)≤(if q n = true then 1 else 0):=by
   cases hp : p n with
   | false=>simp
   | true=>rw[h n hp];simp
  refine ⟨by omega,fun hj=>?_⟩
  by_cases e : j0 = n
  ·subst e
   rw[h1,h2]
   simp
   exact g1
  ·have:=g2 (by omega);omega
theorem bA3 {a c : List Bool} (hl : c.length = a.length) (h : ah5 a c = true) : bA2 a+1≤bA2 (orB a c) := by
 obtain ⟨j0,h1,h2⟩:=(ba6 (by omega)).1 h
 unfold bA2
 rw[O5]
 refine (ba7 (p:=fun j=>a.getD j false) (q:=fun j=>(orB a c).getD j false) (fun j hj=>?_) j0 ?_ h2 a.length).2 (by have:=as3 h1;omega)
 ·exact (bh7 (by omega) j).2 (.inl hj)
 ·exact (bh7 (by omega) j0).2 (.inr h1)
theorem cn3 (l : List Bool) : bA2 l≤l.length := by
 unfold bA2
 have:=List.countP_le_length (p:=fun j=>l.getD j false) (l:=List.range l.length)
 simpa using this
def upM (M : Nat→Nat→Prop) (t : Nat) (i j : Nat) : Prop := ∃ m,1≤m∧m≤t∧Iter M m i j
def aF8 (M : Nat→Nat→Prop) (i j : Nat) : Prop := ∃ m,1≤m∧Iter M m i j
theorem bq8 (M : Nat→Nat→Prop) (t i j : Nat) : upM M (t+1) i j ↔ upM M t i j ∨ Iter M (t+1) i j := by
 constructor
 ·rintro ⟨m,h1,h2,h3⟩
  by_cases e : m = t+1
  ·subst e;exact .inr h3
  ·exact .inl ⟨m,h1,by omega,h3⟩
 ·rintro (⟨m,h1,h2,h3⟩ | h)
  ·exact ⟨m,h1,by omega,h3⟩
  ·exact ⟨t+1,by omega,Nat.le_refl _,h⟩
theorem bU5 {M : Nat→Nat→Prop} {b : List Bool} {t : Nat} (hle : ∀ i j,M i j→i < b.length→j < b.length) (h : ah5 (B0 (upM M t) b) (B0 (Iter M (t+1)) b) = false) : B0 (upM M (t+1)) b = B0 (aF8 M) b := by
 have key : ∀ m i j,1≤m→b.getD i false = true→Iter M m i j→∃ i',b.getD i' false = true∧upM M t i' j:=by
  have hno : ∀ i j,b.getD i false = true→Iter M (t+1) i j→∃ i',b.getD i' false = true∧upM M t i' j:=by
   intro i j hi hit
   by_cases hc : ∃ i',b.getD i' false = true∧upM M t i' j
   ·exact hc
   ·exfalso
    have hil:=as3 hi
    have hjl : j < b.length:=by
     have:=Iter.le (n:=b.length - 1) (fun i j hm h'=>by have:=hle i j hm (by omega);omega) hit (by omega)
     omega
    have h1 : (B0 (Iter M (t+1)) b).getD j false = true:=N1.2 ⟨hjl,i,hi,hit⟩
    have h2 : (B0 (upM M t) b).getD j false = false:=Bool.eq_false_iff.2 (fun e=>hc (N1.1 e).2)
    rw[(ba6 (by rw[p7,p7];exact Nat.le_refl _)).2 ⟨j,h1,h2⟩] at h
    cases h
  intro m
  induction m with
  | zero=>intro i j h1;omega
  | succ m ih =>
   intro i j _ hi hit
   by_cases hm : m = 0
   ·subst hm
    by_cases ht : t = 0
    ·subst ht;exact hno i j hi hit
    ·exact ⟨i,hi,1,by omega,by omega,hit⟩
   ·obtain ⟨k,h1,h2⟩:=Iter.snoc_iff.1 hit
    obtain ⟨i',h3,m',h4,h5,h6⟩:=ih i k (by omega) hi h1
    have h7:=h6.snoc h2
    by_cases e : m' = t
    ·subst e;exact hno i' j h3 h7
    ·exact ⟨i',h3,m'+1,by omega,by omega,h7⟩
 refine U9 (by rw[p7,p7]) fun j hj=>?_
 rw[N1,N1]
 constructor
 ·rintro ⟨h1,i,h2,m,h3,_,h4⟩
  exact ⟨h1,i,h2,m,h3,h4⟩
 ·rintro ⟨h1,i,h2,m,h3,h4⟩
  obtain ⟨i',g1,g2⟩:=key m i j h3 h2 h4
  exact ⟨h1,i',g1,(bq8 M t i' j).2 (.inl g2)⟩
def cn4 (args : List AV) (r : AV) : Prop := ∃ a b : List Bool,b.length = a.length∧a.length≤10000000∧args = [slB a,slB b]∧r = .tup [slB (orB a b),.bool (ah5 a b)]
theorem bq9 : N2 cn4 := by
 rintro args r r' ⟨a,b,_,_,rfl,rfl⟩ ⟨a',b',_,_,h,rfl⟩
 simp only[List.cons.injEq,AV.sl.injEq,and_true] at h
 rw[ah9 h.1.2,ah9 h.2.2]
theorem aQ7 (args r) (h : cn4 args r) : Ok Tryz.prog 64 args r := by obtain ⟨a,b,h1,h2,rfl,rfl⟩ := h;exact cH8 a b h1 h2
def dE7 (w : List Int) (l : List Nd) (args : List AV) (r : AV) : Prop := ∃ (i : Nat) (b : List Bool),i < l.length∧b.length = w.length+1∧args = [j5 (l.getD i default),slI w,slB b]∧r = slB (B0 (Mt w (l.getD i default)) b)
theorem bU6 (w l) : N2 (dE7 w l) := by
 rintro args r r' ⟨i,b,_,_,rfl,rfl⟩ ⟨i',b',_,_,h,rfl⟩
 simp only[List.cons.injEq,AV.agg.injEq,AV.sl.injEq,and_true,true_and] at h
 rw[K0 h.1,ah9 h.2.2]
def br0 (w : List Int) (l : List Nd) : Prop := ∀ i,i < l.length→∀ b : List Bool,b.length = w.length+1→Ok Tryz.prog 31 [j5 (l.getD i default),slI w,slB b] (slB (B0 (Mt w (l.getD i default)) b))
noncomputable def XKm (w : List Int) (l : List Nd) : FuncId→List AV→Option AV := t7 [(31,D9 (dE7 w l)),(64,D9 cn4)]
theorem bU7 {w l} (h : br0 w l) : s6 Tryz.prog (XKm w l) := l8 (l8 (t6 _) (n8 aQ7)) (n8 (fun args r h'=>by obtain ⟨i,b,h1,h2,rfl,rfl⟩ := h';exact h i h1 b h2))
theorem aQ8 {w l} {i : Nat} (hi : i < l.length) {b : List Bool} (hb : b.length = w.length+1) : XKm w l 31 [j5 (l.getD i default),slI w,slB b] = some (slB (B0 (Mt w (l.getD i default)) b)) := o8 (bU6 w l) ⟨i,b,hi,hb,rfl,rfl⟩
theorem bh8 {w l} {a b : List Bool} (hl : b.length = a.length) (hn : a.length≤10000000) : XKm w l 64 [slB a,slB b] = some (.tup [slB (orB a b),.bool (ah5 a b)]) := o8 bq9 ⟨a,b,hl,hn,rfl,rfl⟩
theorem bU8 (X) : d9 (EX md0 X) (fun _=>none) 4 Tryz.f65 = true := by kernel_rfl
theorem br1 (w : List Int) (hw : w.length≤1000000) (x : Nd) (h : br0 w [x]) (b : List Bool) (hb : b.length = w.length+1) : Ok Tryz.prog 65 [j5 x,slI w,slB b,.int .i64 0] (slB (B0 (aF8 (Mt w x)) b)) := by
 refine m7 (E:=EX md0 (XKm w [x])) (cr:=noR) (bU7 h) (q7 _) mixed (k:=10000010) Tryz.func65 (bU8 _) rfl ?_
 have hle : ∀ i j,Mt w x i j→i < b.length→j < b.length:=fun i j hm hi=>by have:=cn2 w x i j hm (by omega);omega
 have hends : ∀ c : List Bool,c.length = w.length+1→XKm w [x] 31 [j5 x,slI w,slB c] = some (slB (B0 (Mt w x) c)):=fun c hc=>aQ8 (l:=[x]) (i:=0) (by simp) hc
 have hboth : ∀ a c : List Bool,c.length = a.length→a.length≤10000000→XKm w [x] 64 [slB a,slB c] = some (.tup [slB (orB a c),.bool (ah5 a c)]):=fun a c=>bh8
 generalize Mt w x = M at *
 generalize XKm w [x] = X at *
 have hup0 : B0 (upM M 0) b = List.replicate b.length false:=by
  rw[← as4]
  exact y8 (fun i j=>⟨fun ⟨m,h1,h2,_⟩=>by omega,fun h=>h.elim⟩)
 have hit0 : B0 (Iter M 0) b = b:=(y8 (fun i j=>Iff.rfl)).trans (af1 b)
 have hz:=J5 b.length
 obtain ⟨k,s,lo,hi,l⟩:=x
 simp only[j5,n7] at hends
 simp only[Tryz.f65,Option.getD_some,j5,n7]
 simp (disch:=omega) only[go_sem,hz]
 refine o9 (fun m a o nx=>∃ t : Nat,t≤bA2 (B0 (upM M t) b)∧m = b.length+1 - t∧2≤nx∧a 1 = slI w∧a 3 = .int .i64 0∧a 4 = .ptr (0,4) (0,4) 0∧(a 9 = slB (B0 (upM M t) b) ∨ (t = 0∧a 9 = .ref (1,16) (1,16) 0 b.length∧o (1,16) = some (.row ⟨4,1,(1,16),false,true,cB (List.replicate b.length false)⟩)))∧a 10 = slB (B0 (Iter M t) b)∧a 11 = .int .i64 t∧o (0,4) = some (.row ⟨28,1,(0,4),false,true,[.int .i64 k,.int .i64 s,.int .i64 lo,.int .i64 hi,slN l]⟩)) (b.length+1) (by omega) ⟨0,by omega,by omega,by omega,by simp (disch:=omega) only[go_sem],by simp (disch:=omega) only[go_sem],by simp (disch:=omega) only[go_sem],.inr ⟨rfl,by simp (disch:=omega) only[go_sem],by simp (disch:=omega) only[go_sem]⟩,by simp (disch:=omega) only[go_sem];rw[hit0],by simp (disch:=omega) only[go_sem],by simp (disch:=omega) only[go_sem]⟩ ?_
 rintro m a o nx ⟨t,ht,rfl,hnx,a1,a3,a4,h9,a10,a11,ho⟩
 have htl:=cn3 (B0 (upM M t) b)
 rw[p7] at htl
 have hc1 : (B0 (Iter M t) b).length = w.length+1:=by rw[p7,hb]
 have e1:=hends _ hc1
 have e2 : B0 M (B0 (Iter M t) b) = B0 (Iter M (t+1)) b:=by
  rw[aF6 (fun i k hm hi=>by
   have:=Iter.le (n:=b.length - 1) (fun i j hm h'=>by have:=hle i j hm (by omega);omega) hm (by omega)
   omega)]
  exact y8 (fun i j=>Iter.snoc_iff.symm)
 rw[e2] at e1
 have hl1 : (B0 (Iter M (t+1)) b).length = (B0 (upM M t) b).length:=by rw[p7,p7]
 have e3:=hboth (B0 (upM M t) b) (B0 (Iter M (t+1)) b) hl1 (by rw[p7];omega)
 have e4 : orB (B0 (upM M t) b) (B0 (Iter M (t+1)) b) = B0 (upM M (t+1)) b:=by
  rw[aF7]
  exact y8 (fun i j=>(bq8 M t i j).symm)
 have hlU : (B0 (upM M t) b).length = b.length:=p7 _ _
 have hlI : (B0 (Iter M t) b).length = b.length:=p7 _ _
 have hlI' : (B0 (Iter M (t+1)) b).length = b.length:=p7 _ _
 have hlU' : (B0 (upM M (t+1)) b).length = b.length:=p7 _ _
 have hmore:=bA3 hl1
 have hdone:=bU5 (t:=t) hle
 rw[e4] at e3 hmore
 cases hm : ah5 (B0 (upM M t) b) (B0 (Iter M (t+1)) b) with
 | true =>
  rw[hm] at e3 hmore
  have hmore:=hmore rfl
  rcases h9 with h9 | ⟨rfl,h9,ho9⟩
  ·simp (disch:=omega) only[go_sem,a1,a3,a4,h9,a10,a11,ho,e1,e3]
   exact ⟨_,by omega,t+1,by omega,rfl,rfl,rfl,rfl⟩
  ·rw[hup0] at e3
   have htk : (cB (List.replicate b.length false)).take b.length = cB (List.replicate b.length false):=j7 (by simp[cB])
   have hlr : (List.replicate b.length false).length = b.length:=List.length_replicate
   simp only[slB,hlr] at e3
   simp (disch:=omega) only[go_sem,a1,a3,a4,h9,ho9,a10,a11,ho,e1,e3,htk]
   exact ⟨_,by omega,0+1,by omega,rfl,rfl,rfl,rfl⟩
 | false =>
  rw[hm] at e3
  have hdone:=hdone hm
  rw[hdone] at e3
  have hlP : (B0 (aF8 M) b).length = b.length:=p7 _ _
  rcases h9 with h9 | ⟨rfl,h9,ho9⟩
  ·simp (disch:=omega) only[go_sem,a1,a3,a4,h9,a10,a11,ho,e1,e3]
  ·rw[hup0] at e3
   have htk : (cB (List.replicate b.length false)).take b.length = cB (List.replicate b.length false):=j7 (by simp[cB])
   have hlr : (List.replicate b.length false).length = b.length:=List.length_replicate
   simp only[slB,hlr] at e3
   simp (disch:=omega) only[go_sem,a1,a3,a4,h9,ho9,a10,a11,ho,e1,e3,htk]
def bB3 (lo hi : Nat) (M : Nat→Nat→Prop) (i j : Nat) : Prop := ∃ m,lo≤m∧m≤hi∧Iter M m i j
theorem bU9 {lo t : Nat} (h : lo≤t) (M : Nat→Nat→Prop) (i j : Nat) : bB3 lo (t+1) M i j ↔ bB3 lo t M i j ∨ Iter M (t+1) i j := by
 constructor
 ·rintro ⟨m,h1,h2,h3⟩
  by_cases e : m = t+1
  ·subst e;exact .inr h3
  ·exact .inl ⟨m,h1,by omega,h3⟩
 ·rintro (⟨m,h1,h2,h3⟩ | h')
  ·exact ⟨m,h1,by omega,h3⟩
  ·exact ⟨t+1,by omega,Nat.le_refl _,h'⟩
theorem bV0 (lo : Nat) (M : Nat→Nat→Prop) (i j : Nat) : Iter M lo i j ↔ bB3 lo lo M i j :=
 ⟨fun h=>⟨lo,Nat.le_refl _,Nat.le_refl _,h⟩,fun ⟨m,h1,h2,h3⟩=>(show m = lo by omega) ▸ h3⟩
theorem cn5 (X) : d9 (EX md0 X) (fun _=>none) 3 Tryz.f66 = true := by kernel_rfl
theorem ba8 (w : List Int) (hw : w.length≤1000000) (x : Nd) (h : br0 w [x]) (lo hi : Nat) (h1 : lo≤hi) (h2 : hi≤1000) (b : List Bool) (hb : b.length = w.length+1) : Ok Tryz.prog 66 [j5 (.mk 9 0 lo hi [x]),slI w,slB b] (slB (B0 (bB3 lo hi (Mt w x)) b)) := by
 refine m7 (E:=EX md0 (XKm w [x])) (cr:=noR) (bU7 h) (q7 _) mixed (k:=10000010) Tryz.func66 (cn5 _) rfl ?_
 have hle : ∀ i j,Mt w x i j→i < b.length→j < b.length:=fun i j hm hi=>by have:=cn2 w x i j hm (by omega);omega
 have hends : ∀ c : List Bool,c.length = w.length+1→XKm w [x] 31 [j5 x,slI w,slB c] = some (slB (B0 (Mt w x) c)):=fun c hc=>aQ8 (l:=[x]) (i:=0) (by simp) hc
 have hboth : ∀ a c : List Bool,c.length = a.length→a.length≤10000000→XKm w [x] 64 [slB a,slB c] = some (.tup [slB (orB a c),.bool (ah5 a c)]):=fun a c=>bh8
 generalize Mt w x = M at *
 generalize XKm w [x] = X at *
 have hit0 : B0 (Iter M 0) b = b:=(y8 (fun i j=>Iff.rfl)).trans (af1 b)
 have hit : ∀ t,B0 M (B0 (Iter M t) b) = B0 (Iter M (t+1)) b:=fun t=>by
  rw[aF6 (fun i k hm hi=>by
   have:=Iter.le (n:=b.length - 1) (fun i j hm h'=>by have:=hle i j hm (by omega);omega) hm (by omega)
   omega)]
  exact y8 (fun i j=>Iter.snoc_iff.symm)
 have hat : G0 [x] = cNd x++[]:=by rw[A5,List.append_nil]
 have hlI : ∀ t,(B0 (Iter M t) b).length = b.length:=fun t=>p7 _ _
 have hlR : ∀ t,(B0 (bB3 lo t M) b).length = b.length:=fun t=>p7 _ _
 have hself : B0 (Iter M lo) b = B0 (bB3 lo lo M) b:=y8 (fun i j=>bV0 lo M i j)
 simp only[j5] at hends
 simp only[Tryz.f66,Option.getD_some,j5,n7,slN,List.length_singleton,hat]
 simp (disch:=omega) only[go_sem]
 refine o9 (fun m a o nx=>∃ t : Nat,t≤lo∧m = lo - t∧2≤nx∧a 1 = slI w∧a 2 = slB (B0 (Iter M t) b)∧a 3 = .ptr (0,3) (0,3) 0∧a 7 = .int .i64 t∧o (0,3) = some (.row ⟨28,1,(0,3),false,true,[.int .i64 9,.int .i64 0,.int .i64 lo,.int .i64 hi,.sl 1 (cNd x++[])]⟩)) lo (by omega) ⟨0,by omega,by omega,by omega,by simp (disch:=omega) only[go_sem],by simp (disch:=omega) only[go_sem];rw[hit0],by simp (disch:=omega) only[go_sem],by simp (disch:=omega) only[go_sem],by simp (disch:=omega) only[go_sem]⟩ ?_
 rintro m a o nx ⟨t,ht,rfl,hnx,a1,a2,a3,a7,ho⟩
 have e1:=hends _ ((hlI t).trans hb)
 rw[hit t] at e1
 have l1:=hlI t
 have l2:=hlI (t+1)
 by_cases hlt : t < lo
 ·simp (disch:=omega) only[go_sem,a1,a2,a3,a7,ho,e1]
  exact ⟨_,by omega,t+1,by omega,rfl,rfl,rfl⟩
 ·have hte : t = lo:=by omega
  subst hte
  clear e1
  simp (disch:=omega) only[go_sem,a1,a2,a3,a7,ho]
  refine o9 (fun m a o nx=>∃ u : Nat,t≤u∧u≤hi∧m = hi - u∧2≤nx∧a 1 = slI w∧a 2 = slB (B0 (Iter M u) b)∧a 3 = .ptr (0,3) (0,3) 0∧a 8 = slB (B0 (bB3 t u M) b)∧a 9 = .int .i64 u∧o (0,3) = some (.row ⟨28,1,(0,3),false,true,[.int .i64 9,.int .i64 0,.int .i64 t,.int .i64 hi,.sl 1 (cNd x++[])]⟩)) (hi - t) (by omega) ⟨t,by omega,by omega,by omega,by omega,by simp (disch:=omega) only[go_sem,a1],by simp (disch:=omega) only[go_sem,a2],by simp (disch:=omega) only[go_sem,a3],by simp (disch:=omega) only[go_sem];rw[← hself],by simp (disch:=omega) only[go_sem],by simp (disch:=omega) only[go_sem,ho]⟩ ?_
  clear a1 a2 a3 a7 ho hnx
  rintro m a o nx ⟨u,hu,hu2,rfl,hnx,a1,a2,a3,a8,a9,ho⟩
  have e1:=hends _ ((hlI u).trans hb)
  rw[hit u] at e1
  have l3:=hlI u
  have l4:=hlI (u+1)
  have l5:=hlR u
  have l6:=hlR (u+1)
  have e2:=hboth (B0 (bB3 t u M) b) (B0 (Iter M (u+1)) b) (by omega) (by omega)
  rw[aF7,y8 (fun i j=>(bU9 hu M i j).symm)] at e2
  generalize ah5 (B0 (bB3 t u M) b) (B0 (Iter M (u+1)) b) = q at e2
  by_cases hlt2 : u < hi
  ·simp (disch:=omega) only[go_sem,a1,a2,a3,a8,a9,ho,e1,e2]
   exact ⟨_,by omega,u+1,by omega,by omega,rfl,rfl,rfl,rfl⟩
  ·have hue : u = hi:=by omega
   subst hue
   clear e1 e2
   simp (disch:=omega) only[go_sem,a1,a2,a3,a8,a9,ho]
set_option maxRecDepth 20000
def nzE : Nat→Option (List (Nat × Nat))
 | 7=>some [(23,28)]
 | _=>none
theorem ah2 (X) : d9 (EX md0 X) nzE 3 Tryz.f31 = true := by kernel_rfl
abbrev cO7 (r : AV) : s8 := fun u a o nx=>(u = .normal ∨ u = .ret)∧wO (s7 Tryz.prog a ⟨o,nx⟩ Tryz.f31.results.toList) (fun vs=>view o p9 (ac3 vs) = r)
def bh9 (w : List Int) (s : Int) (b : List Bool) (i : Nat) : List Bool := (List.range b.length).map fun j=>decide (1≤j∧j≤i) && (b.getD (j - 1) false && ae9 s (w.getD (j - 1) 0))
theorem I3 (w s b i) : (bh9 w s b i).length = b.length := by simp[bh9]
theorem bV1 (w s b) : bh9 w s b 0 = List.replicate b.length false := U9 (by rw[I3];simp) fun j hj=>by
 rw[bh9,E7,decide_eq_false (by omega : ¬ (1≤j∧j≤0))]
 simp only[Bool.false_and,Bool.and_false,Bool.false_eq_true,false_iff]
 rw[List.getD_eq_getElem?_getD,List.getElem?_replicate]
 split <;> simp
theorem bV2 (w s) (b : List Bool) (i : Nat) (h : i+1 < b.length) : bh9 w s b (i+1) = (bh9 w s b i).set (i+1) (b.getD i false && ae9 s (w.getD i 0)) := by
 refine U9 (by rw[List.length_set,I3,I3]) fun j hj=>?_
 rw[List.length_set,I3] at hj
 rw[ao3,I3,bh9,bh9,E7,E7]
 by_cases e : i+1 = j
 ·subst e
  rw[if_pos ⟨rfl,hj⟩,decide_eq_true (by omega : 1≤i+1∧i+1≤i+1),decide_eq_true hj]
  simp
 ·rw[if_neg (fun h=>e h.1)]
  have : decide (1≤j∧j≤i+1) = decide (1≤j∧j≤i):=by
   rw[Bool.eq_iff_iff,decide_eq_true_eq,decide_eq_true_eq];omega
  rw[this]
theorem bV3 (w : List Int) (s lo hi : Int) (b : List Bool) (hb : b.length = w.length+1) : bh9 w s b w.length = B0 (Mt w (.mk 1 s lo hi [])) b := by
 refine aF5 (I3 _ _ _ _) fun j hj=>?_
 rw[bh9,E7,decide_eq_true hj,Bool.true_and,Bool.and_eq_true,decide_eq_true_eq,Bool.and_eq_true]
 constructor
 ·rintro ⟨⟨h1,h2⟩,h3,h4⟩
  refine ⟨j - 1,h3,?_⟩
  rw[ab3,if_pos rfl]
  exact ⟨by omega,by omega,h4⟩
 ·rintro ⟨i,h1,h2⟩
  rw[ab3,if_pos rfl] at h2
  obtain ⟨rfl,h3,h4⟩:=h2
  exact ⟨⟨by omega,by omega⟩,by simpa using h1,by simpa using h4⟩
theorem cn6 (w : List Int) (hw : w.length≤1000000) (s : Int) (b : List Bool) (hb : b.length = w.length+1) (X : FuncId→List AV→Option AV) :
  WP (EX md0 X) noR 10000010 nzE (Tryz.f31.body.getD .skip) (A2 [j5 (.mk 1 s 0 0 []),slI w,slB b]) (fun _=>none) 0 (cO7 (slB (B0 (Mt w (.mk 1 s 0 0 [])) b))):=by
 rw[← bV3 w s 0 0 b hb]
 have hz:=J5 b.length
 have hol : ∀ i,(bh9 w s b i).length = b.length:=I3 w s b
 simp only[Tryz.f31,Option.getD_some,j5,n7]
 simp (disch:=omega) only[go_sem,hz]
 refine o9 (fun m a o nx=>∃ i : Nat,i≤w.length∧m = w.length - i∧2≤nx∧a 1 = slI w∧a 2 = slB b∧a 3 = .ptr (0,3) (0,3) 0∧a 7 = .ref (1,13) (1,13) 0 b.length∧a 8 = .int .i64 i∧o (0,3) = some (.row ⟨28,1,(0,3),false,true,[.int .i64 1,.int .i64 s,.int .i64 0,.int .i64 0,slN []]⟩)∧o (1,13) = some (.row ⟨4,1,(1,13),false,true,cB (bh9 w s b i)⟩)) w.length (by omega) ⟨0,by omega,by omega,by omega,by simp (disch:=omega) only[go_sem],by simp (disch:=omega) only[go_sem],by simp (disch:=omega) only[go_sem],by simp (disch:=omega) only[go_sem],by simp (disch:=omega) only[go_sem],by simp (disch:=omega) only[go_sem],by simp (disch:=omega) only[go_sem];rw[bV1]⟩ ?_
 rintro m a o nx ⟨i,hi,rfl,hnx,a1,a2,a3,a7,a8,ho3,ho13⟩
 by_cases hlt : i < w.length
 ·have hgb:=L3 (l:=b) (s:=1) (show i < b.length by omega)
  have hgw:=P6 (s:=1) hlt
  have hsn:=bV2 w s b i (by omega)
  have hset:=aB2 (bh9 w s b i) (i+1) (b.getD i false && ae9 s (w.getD i 0)) (by rw[I3];omega)
  have hoi:=hol i
  unfold ae9 at hset hsn
  generalize w.getD i 0 = m at hgw hsn hset
  cases hb1 : b.getD i false with
  | false =>
   rw[hb1] at hgb hsn hset
   simp only[Bool.false_and] at hsn hset
   simp (disch:=omega) only[go_sem,a1,a2,a3,a7,a8,ho3,ho13,nzE,hgb,hgw,hset,hoi]
   exact ⟨_,by omega,i+1,by omega,rfl,rfl,by rw[hsn]⟩
  | true =>
   rw[hb1] at hgb hsn hset
   by_cases hm0 : 0≤m
   ·by_cases hm5 : m < 5
    ·cases hm : I9 s m with
     | true =>
      rw[hm,decide_eq_true hm0,decide_eq_true hm5] at hsn hset
      simp only[I9,decide_eq_true_eq] at hm
      simp only[Bool.and_self] at hsn hset
      simp (disch:=omega) only[go_sem,a1,a2,a3,a7,a8,ho3,ho13,nzE,hgb,hgw,hset,hm0,hm5,hm,hoi]
      exact ⟨_,by omega,i+1,by omega,rfl,rfl,by rw[hsn]⟩
     | false =>
      rw[hm,decide_eq_true hm0,decide_eq_true hm5] at hsn hset
      simp only[I9,decide_eq_false_iff_not] at hm
      simp only[Bool.and_false] at hsn hset
      simp (disch:=omega) only[go_sem,a1,a2,a3,a7,a8,ho3,ho13,nzE,hgb,hgw,hset,hm0,hm5,hm,hoi]
      exact ⟨_,by omega,i+1,by omega,rfl,rfl,by rw[hsn]⟩
    ·rw[decide_eq_true hm0,decide_eq_false hm5] at hsn hset
     simp only[Bool.and_false,Bool.false_and] at hsn hset
     simp (disch:=omega) only[go_sem,a1,a2,a3,a7,a8,ho3,ho13,nzE,hgb,hgw,hset,hoi]
     exact ⟨_,by omega,i+1,by omega,rfl,rfl,by rw[hsn]⟩
   ·rw[decide_eq_false hm0] at hsn hset
    simp only[Bool.and_false,Bool.false_and] at hsn hset
    simp (disch:=omega) only[go_sem,a1,a2,a3,a7,a8,ho3,ho13,nzE,hgb,hgw,hset,hoi]
    exact ⟨_,by omega,i+1,by omega,rfl,rfl,by rw[hsn]⟩
 ·have hie : i = w.length:=by omega
  rw[hie] at ho13
  have hoi:=hol w.length
  have htk : (cB (bh9 w s b w.length)).take b.length = cB (bh9 w s b w.length):=j7 (by rw[A3,hoi])
  simp (disch:=omega) only[go_sem,a1,a2,a3,a7,a8,ho3,ho13]
  refine ⟨.inr rfl,?_⟩
  simp only[Tryz.f31]
  simp (disch:=omega) only[go_sem,hoi,htk,ho13]
  rw[slB,hoi]
theorem bV4 (w : List Int) (k : Int) (hk : k = 2 ∨ k = 3) (b : List Bool) (hb : b.length≤1000001) (X : FuncId→List AV→Option AV) :
  WP (EX md0 X) noR 10000010 nzE (Tryz.f31.body.getD .skip) (A2 [j5 (.mk k 0 0 0 []),slI w,slB b]) (fun _=>none) 0 (cO7 (slB (B0 (Mt w (.mk k 0 0 0 [])) b))):=by
 have hz:=J5 b.length
 simp only[Tryz.f31,Option.getD_some,j5,n7]
 rcases hk with rfl | rfl
 ·have e : B0 (Mt w (.mk 2 0 0 0 [])) b = List.replicate b.length false:=by
   rw[← as4]
   exact y8 (fun i j=>by rw[ab3];simp)
  have htk : (cB (List.replicate b.length false)).take b.length = cB (List.replicate b.length false):=j7 (by simp[cB])
  rw[e]
  simp (disch:=omega) only[go_sem,hz]
  refine ⟨.inr rfl,?_⟩
  simp only[Tryz.f31]
  simp (disch:=omega) only[go_sem,htk]
  rw[slB,List.length_replicate]
 ·have e : B0 (Mt w (.mk 3 0 0 0 [])) b = b:=(y8 (fun i j=>by rw[ab3];simp)).trans (af1 b)
  rw[e]
  simp (disch:=omega) only[go_sem,hz]
  refine ⟨.inr rfl,?_⟩
  simp only[Tryz.f31]
  simp (disch:=omega) only[go_sem]
theorem aQ9 (w : List Int) (x : Nd) : ∀ (l : List Nd) (i j : Nat),MtJ w (l++[x]) i j ↔ ∃ k,MtJ w l i k∧Mt w x k j
 | [],i,j=>by
  rw[List.nil_append,MtJ,MtJ,MtJ]
  exact ⟨fun ⟨k,h1,h2⟩=>⟨i,rfl,by obtain rfl : k = j:=h2;exact h1⟩,fun ⟨k,h1,h2⟩=>⟨j,by obtain rfl : i = k:=h1;exact h2,rfl⟩⟩
 | y :: l,i,j=>by
  rw[List.cons_append,MtJ,MtJ]
  constructor
  ·rintro ⟨k,h1,h2⟩
   obtain ⟨k',h3,h4⟩:=(aQ9 w x l k j).1 h2
   exact ⟨k',⟨k,h1,h3⟩,h4⟩
  ·rintro ⟨k',⟨k,h1,h3⟩,h4⟩
   exact ⟨k,h1,(aQ9 w x l k j).2 ⟨k',h3,h4⟩⟩
theorem br2 (w : List Int) (x : Nd) : ∀ (l : List Nd) (i j : Nat),MtU w (l++[x]) i j ↔ MtU w l i j ∨ Mt w x i j
 | [],i,j=>by rw[List.nil_append,MtU,MtU];exact or_comm
 | y :: l,i,j=>by
  rw[List.cons_append,MtU,MtU]
  show (Mt w y i j ∨ MtU w (l++[x]) i j) ↔ (Mt w y i j ∨ MtU w l i j) ∨ Mt w x i j
  rw[br2 w x l]
  exact or_assoc.symm
theorem cr7 (w : List Int) : ∀ (l : List Nd) (i j : Nat),MtJ w l i j→i≤w.length→j≤w.length
 | [],i,j,h,hi=>by rw[MtJ] at h;obtain rfl : i = j:=h;exact hi
 | x :: l,i,j,h,hi=>by
  rw[MtJ] at h
  obtain ⟨k,h1,h2⟩:=h
  exact cr7 w l k j h2 (cn2 w x i k h1 hi)
theorem bV5 (w : List Int) (hw : w.length≤1000000) (l : List Nd) (hl : l.length≤1000) (b : List Bool) (hb : b.length = w.length+1) (X : FuncId→List AV→Option AV) (hch : ∀ i,i < l.length→∀ c : List Bool,c.length = w.length+1→X 31 [j5 (l.getD i default),slI w,slB c] = some (slB (B0 (Mt w (l.getD i default)) c))) :
  WP (EX md0 X) noR 10000010 nzE (Tryz.f31.body.getD .skip) (A2 [j5 (.mk 4 0 0 0 l),slI w,slB b]) (fun _=>none) 0 (cO7 (slB (B0 (Mt w (.mk 4 0 0 0 l)) b))):=by
 have hz:=J5 b.length
 have e0 : B0 (MtJ w []) b = b:=(y8 (fun i j=>by rw[MtJ])).trans (af1 b)
 have e1 : B0 (Mt w (.mk 4 0 0 0 l)) b = B0 (MtJ w l) b:=y8 (fun i j=>by rw[ab3];simp)
 rw[e1]
 simp only[Tryz.f31,Option.getD_some,j5,n7]
 simp (disch:=omega) only[go_sem,hz]
 refine o9 (fun m a o nx=>∃ i : Nat,i≤l.length∧m = l.length - i∧2≤nx∧a 1 = slI w∧a 3 = .ptr (0,3) (0,3) 0∧a 7 = slB (B0 (MtJ w (l.take i)) b)∧a 9 = .int .i64 i∧o (0,3) = some (.row ⟨28,1,(0,3),false,true,[.int .i64 4,.int .i64 0,.int .i64 0,.int .i64 0,slN l]⟩)) l.length (by omega) ⟨0,by omega,by omega,by omega,by simp (disch:=omega) only[go_sem],by simp (disch:=omega) only[go_sem],by simp (disch:=omega) only[go_sem];rw[e0],by simp (disch:=omega) only[go_sem],by simp (disch:=omega) only[go_sem]⟩ ?_
 rintro m a o nx ⟨i,hi,rfl,hnx,a1,a3,a7,a9,ho⟩
 by_cases hlt : i < l.length
 ·have hat:=ai9 hlt
  have hl1 : (B0 (MtJ w (l.take i)) b).length = b.length:=p7 _ _
  have hci:=hch i hlt _ (hl1.trans hb)
  rw[aF6 (fun i k hm hi=>by have:=cr7 w _ i k hm (by omega);omega)] at hci
  have hsn : B0 (MtJ w (l.take (i+1))) b = B0 (fun p q=>∃ k,MtJ w (l.take i) p k∧Mt w (l.getD i default) k q) b:=by
   rw[q8 hlt default]
   exact y8 (fun p q=>aQ9 w _ _ p q)
  rw[← hsn] at hci
  simp only[j5] at hci
  clear hsn
  generalize l.getD i default = x at *
  simp (disch:=omega) only[go_sem,a1,a3,a7,a9,ho,hat,hci]
  exact ⟨_,by omega,i+1,by omega,rfl,rfl,rfl⟩
 ·have hie : i = l.length:=by omega
  rw[hie,List.take_length] at a7
  simp (disch:=omega) only[go_sem,a1,a3,a7,a9,ho]
  refine ⟨.inr rfl,?_⟩
  simp only[Tryz.f31]
  simp (disch:=omega) only[go_sem]
theorem bA4 (w : List Int) (hw : w.length≤1000000) (l : List Nd) (h0 : l ≠ []) (hl : l.length≤1000) (b : List Bool) (hb : b.length = w.length+1) (X : FuncId→List AV→Option AV) (hch : ∀ i,i < l.length→∀ c : List Bool,c.length = w.length+1→X 31 [j5 (l.getD i default),slI w,slB c] = some (slB (B0 (Mt w (l.getD i default)) c)))
  (hboth : ∀ a c : List Bool,c.length = a.length→a.length≤10000000→X 64 [slB a,slB c] = some (.tup [slB (orB a c),.bool (ah5 a c)])) :
  WP (EX md0 X) noR 10000010 nzE (Tryz.f31.body.getD .skip) (A2 [j5 (.mk 5 0 0 0 l),slI w,slB b]) (fun _=>none) 0 (cO7 (slB (B0 (Mt w (.mk 5 0 0 0 l)) b))):=by
 have hz:=J5 b.length
 have e0 : B0 (MtU w []) b = List.replicate b.length false:=(y8 (fun i j=>by rw[MtU])).trans (as4 b)
 have e1 : B0 (Mt w (.mk 5 0 0 0 l)) b = B0 (MtU w l) b:=y8 (fun i j=>by rw[ab3];simp)
 have hlp : l.length ≠ 0:=fun e=>h0 (List.length_eq_zero_iff.1 e)
 have htk : (cB (List.replicate b.length false)).take b.length = cB (List.replicate b.length false):=j7 (by simp[cB])
 have hlr : (List.replicate b.length false).length = b.length:=List.length_replicate
 rw[e1]
 simp only[Tryz.f31,Option.getD_some,j5,n7]
 simp (disch:=omega) only[go_sem,hz]
 refine o9 (fun m a o nx=>∃ i : Nat,i≤l.length∧m = l.length - i∧2≤nx∧a 1 = slI w∧a 2 = slB b∧a 3 = .ptr (0,3) (0,3) 0∧((0 < i∧a 7 = slB (B0 (MtU w (l.take i)) b)) ∨ (i = 0∧a 7 = .ref (1,13) (1,13) 0 b.length∧o (1,13) = some (.row ⟨4,1,(1,13),false,true,cB (List.replicate b.length false)⟩)))∧a 10 = .int .i64 i∧o (0,3) = some (.row ⟨28,1,(0,3),false,true,[.int .i64 5,.int .i64 0,.int .i64 0,.int .i64 0,slN l]⟩)) l.length (by omega) ⟨0,by omega,by omega,by omega,by simp (disch:=omega) only[go_sem],by simp (disch:=omega) only[go_sem],by simp (disch:=omega) only[go_sem],.inr ⟨rfl,by simp (disch:=omega) only[go_sem],by simp (disch:=omega) only[go_sem]⟩,by simp (disch:=omega) only[go_sem],by simp (disch:=omega) only[go_sem]⟩ ?_
 rintro m a o nx ⟨i,hi,rfl,hnx,a1,a2,a3,h7,a10,ho⟩
 by_cases hlt : i < l.length
 ·have hat:=ai9 hlt
  have hl1 : (B0 (MtU w (l.take i)) b).length = b.length:=p7 _ _
  have hl3 : (B0 (MtU w (l.take (i+1))) b).length = b.length:=p7 _ _
  have hl2 : (B0 (Mt w (l.getD i default)) b).length = b.length:=p7 _ _
  have hci:=hch i hlt _ hb
  have hbo:=hboth (B0 (MtU w (l.take i)) b) (B0 (Mt w (l.getD i default)) b) (by omega) (by omega)
  have hsn : B0 (MtU w (l.take (i+1))) b = B0 (fun p q=>MtU w (l.take i) p q ∨ Mt w (l.getD i default) p q) b:=by
   rw[q8 hlt default]
   exact y8 (fun p q=>br2 w _ _ p q)
  rw[aF7,← hsn] at hbo
  generalize ah5 (B0 (MtU w (l.take i)) b) (B0 (Mt w (l.getD i default)) b) = q at hbo
  simp only[j5] at hci
  clear hsn
  rcases h7 with ⟨h0,a7⟩ | ⟨rfl,a7,ho7⟩
  ·generalize l.getD i default = x at *
   simp (disch:=omega) only[go_sem,a1,a2,a3,a7,a10,ho,hat,hci,hbo]
   exact ⟨_,by omega,i+1,by omega,rfl,⟨by omega,rfl⟩,rfl⟩
  ·rw[List.take_zero,e0] at hbo
   simp only[slB,hlr] at hbo
   generalize l.getD 0 default = x at *
   rw[Nat.zero_mul] at hat
   rw[List.drop_zero] at hat
   simp (disch:=omega) only[go_sem,a1,a2,a3,a7,a10,ho,ho7,hat,hci,hbo,htk]
   exact ⟨_,by omega,1,by omega,rfl,⟨by omega,rfl⟩,rfl⟩
 ·have hie : i = l.length:=by omega
  rcases h7 with ⟨h0,a7⟩ | ⟨rfl,a7,ho7⟩
  ·rw[hie,List.take_length] at a7
   simp (disch:=omega) only[go_sem,a1,a2,a3,a7,a10,ho]
   refine ⟨.inr rfl,?_⟩
   simp only[Tryz.f31]
   simp (disch:=omega) only[go_sem]
  ·omega
def dT5 (w : List Int) (x : Nd) (args : List AV) (r : AV) : Prop := ∃ b : List Bool,b.length = w.length+1∧args = [j5 x,slI w,slB b,.int .i64 0]∧r = slB (B0 (aF8 (Mt w x)) b)
theorem cH9 (w x) : N2 (dT5 w x) := by
 rintro args r r' ⟨b,_,rfl,rfl⟩ ⟨b',_,h,rfl⟩
 simp only[List.cons.injEq,AV.sl.injEq,and_true,true_and] at h
 rw[ah9 h.2]
def RRp (w : List Int) (x : Nd) (lo hi : Nat) (args : List AV) (r : AV) : Prop := ∃ b : List Bool,b.length = w.length+1∧args = [j5 (.mk 9 0 lo hi [x]),slI w,slB b]∧r = slB (B0 (bB3 lo hi (Mt w x)) b)
theorem di4 (w x lo hi) : N2 (RRp w x lo hi) := by
 rintro args r r' ⟨b,_,rfl,rfl⟩ ⟨b',_,h,rfl⟩
 simp only[List.cons.injEq,AV.sl.injEq,and_true,true_and] at h
 rw[ah9 h.2]
theorem aR0 (w : List Int) (x : Nd) : MtH w [x] = Mt w x := by rw[MtH]
theorem bV6 (w : List Int) (hw : w.length≤1000000) (k : Int) (hk : k = 6 ∨ k = 7 ∨ k = 8) (x : Nd) (b : List Bool) (hb : b.length = w.length+1) (X : FuncId→List AV→Option AV) (hch : X 31 [j5 x,slI w,slB b] = some (slB (B0 (Mt w x) b)))
  (hboth : ∀ a c : List Bool,c.length = a.length→a.length≤10000000→X 64 [slB a,slB c] = some (.tup [slB (orB a c),.bool (ah5 a c)])) (hoft : X 65 [j5 x,slI w,slB b,.int .i64 0] = some (slB (B0 (aF8 (Mt w x)) b))) :
  WP (EX md0 X) noR 10000010 nzE (Tryz.f31.body.getD .skip) (A2 [j5 (.mk k 0 0 0 [x]),slI w,slB b]) (fun _=>none) 0 (cO7 (slB (B0 (Mt w (.mk k 0 0 0 [x])) b))):=by
 have hz:=J5 b.length
 have hat : G0 [x] = cNd x++[]:=by rw[A5,List.append_nil]
 simp only[j5] at hch hoft
 simp only[Tryz.f31,Option.getD_some,j5,n7,slN,List.length_singleton,hat]
 have hl1 : (B0 (aF8 (Mt w x)) b).length = b.length:=p7 _ _
 have hl2 : (B0 (Mt w x) b).length = b.length:=p7 _ _
 rcases hk with rfl | rfl | rfl
 ·have e : B0 (Mt w (.mk 6 0 0 0 [x])) b = orB b (B0 (aF8 (Mt w x)) b):=by
   conv=>rhs;rw[← af1 b,af1 b]
   have:=aF7 (fun i j=>i = j) (aF8 (Mt w x)) b
   rw[af1] at this
   rw[this]
   refine y8 (fun i j=>?_)
   rw[ab3,if_neg (by decide),if_neg (by decide),if_neg (by decide),if_neg (by decide),if_pos rfl,aR0]
   constructor
   ·rintro ⟨m,h⟩
    cases m with
    | zero=>exact .inl h
    | succ m=>exact .inr ⟨m+1,by omega,h⟩
   ·rintro (h | ⟨m,_,h⟩)
    ·exact ⟨0,h⟩
    ·exact ⟨m,h⟩
  have hbo:=hboth b (B0 (aF8 (Mt w x)) b) (by omega) (by omega)
  rw[← e] at hbo
  generalize ah5 b (B0 (aF8 (Mt w x)) b) = q at hbo
  simp (disch:=omega) only[go_sem,hz,hoft,hbo]
  refine ⟨.inr rfl,?_⟩
  simp only[Tryz.f31]
  simp (disch:=omega) only[go_sem]
 ·have e : B0 (Mt w (.mk 7 0 0 0 [x])) b = B0 (aF8 (Mt w x)) b:=by
   refine y8 (fun i j=>?_)
   rw[ab3,if_neg (by decide),if_neg (by decide),if_neg (by decide),if_neg (by decide),if_neg (by decide),if_pos rfl,aR0]
   exact Iff.rfl
  rw[← e] at hoft
  simp (disch:=omega) only[go_sem,hz,hoft]
  refine ⟨.inr rfl,?_⟩
  simp only[Tryz.f31]
  simp (disch:=omega) only[go_sem]
 ·have e : B0 (Mt w (.mk 8 0 0 0 [x])) b = orB b (B0 (Mt w x) b):=by
   have:=aF7 (fun i j=>i = j) (Mt w x) b
   rw[af1] at this
   rw[this]
   refine y8 (fun i j=>?_)
   rw[ab3,if_neg (by decide),if_neg (by decide),if_neg (by decide),if_neg (by decide),if_neg (by decide),if_neg (by decide),if_pos rfl,aR0]
   constructor
   ·rintro ⟨m,h0,h⟩
    match m,h0,h with
    | 0,_,h=>exact .inl h
    | 1,_,⟨k,h1,h2⟩=>exact .inr (by obtain rfl : k = j:=h2;exact h1)
   ·rintro (h | h)
    ·exact ⟨0,by omega,h⟩
    ·exact ⟨1,by omega,j,h,rfl⟩
  have hbo:=hboth b (B0 (Mt w x) b) (by omega) (by omega)
  rw[← e] at hbo
  generalize ah5 b (B0 (Mt w x) b) = q at hbo
  simp (disch:=omega) only[go_sem,hz,hch,hbo]
  refine ⟨.inr rfl,?_⟩
  simp only[Tryz.f31]
  simp (disch:=omega) only[go_sem]
theorem cn7 (w : List Int) (hw : w.length≤1000000) (lo hi : Nat) (x : Nd) (b : List Bool) (hb : b.length = w.length+1) (X : FuncId→List AV→Option AV) (hrep : X 66 [j5 (.mk 9 0 lo hi [x]),slI w,slB b] = some (slB (B0 (bB3 lo hi (Mt w x)) b))) :
  WP (EX md0 X) noR 10000010 nzE (Tryz.f31.body.getD .skip) (A2 [j5 (.mk 9 0 lo hi [x]),slI w,slB b]) (fun _=>none) 0 (cO7 (slB (B0 (Mt w (.mk 9 0 lo hi [x])) b))):=by
 have hz:=J5 b.length
 have e : B0 (Mt w (.mk 9 0 lo hi [x])) b = B0 (bB3 lo hi (Mt w x)) b:=by
  refine y8 (fun i j=>?_)
  rw[ab3,if_neg (by decide),if_neg (by decide),if_neg (by decide),if_neg (by decide),if_neg (by decide),if_neg (by decide),if_neg (by decide),if_pos rfl,aR0]
  exact exists_congr fun m=>and_congr (by omega) (and_congr (by omega) Iff.rfl)
 rw[← e] at hrep
 simp only[j5,n7,slN,List.length_singleton,A5] at hrep
 simp only[Tryz.f31,Option.getD_some,j5,n7,slN,List.length_singleton,A5]
 simp (disch:=omega) only[go_sem,hz,hrep]
 refine ⟨.inr rfl,?_⟩
 simp only[Tryz.f31]
 simp (disch:=omega) only[go_sem]
noncomputable def XE (w : List Int) (l : List Nd) (lo hi : Nat) : FuncId→List AV→Option AV := t7 [(31,D9 (dE7 w l)),(64,D9 cn4),(65,D9 (dT5 w (l.getD 0 default))),(66,D9 (RRp w (l.getD 0 default) lo hi))]
theorem bV7 (w : List Int) (hw : w.length≤1000000) : ∀ (n : Nd),A4 n = true→aq3 n = true→∀ b : List Bool,b.length = w.length+1→Ok Tryz.prog 31 [j5 n,slI w,slB b] (slB (B0 (Mt w n) b))
 | .mk k s lo hi l,hr,hwi,b,hb=>by
  obtain ⟨hx,hc⟩:=A8 hr
  rw[aq3,Bool.and_eq_true,decide_eq_true_eq] at hwi
  have hkids : br0 w l:=fun i hil c hcl=>by
   have:=aK0 hil k s lo hi
   exact bV7 w hw (l.getD i default) (hx _ (by rw[List.getD_eq_getElem?_getD,List.getElem?_eq_getElem hil];exact List.getElem_mem hil)) (bG5 hwi.2 hil) c hcl
  rcases hc with ⟨rfl,rfl,rfl,rfl,h0,h1⟩ | ⟨hk,rfl,rfl,rfl,rfl⟩ | ⟨hk,rfl,rfl,rfl,y1,y2,r,rfl⟩ | ⟨hk,rfl,rfl,rfl,x,rfl⟩ | ⟨rfl,rfl,h0,h1,h2,x,rfl⟩
  ·exact m7 (E:=EX md0 (fun _ _=>none)) (cr:=noR) (z8 _) (q7 _) mixed (k:=10000010) Tryz.func31 (ah2 _) rfl (cn6 w hw s b hb _)
  ·exact m7 (E:=EX md0 (fun _ _=>none)) (cr:=noR) (z8 _) (q7 _) mixed (k:=10000010) Tryz.func31 (ah2 _) rfl (bV4 w k hk b (by omega) _)
  ·have hX:=bU7 hkids
   rcases hk with rfl | rfl
   ·exact m7 (E:=EX md0 (XKm w (y1 :: y2 :: r))) (cr:=noR) hX (q7 _) mixed (k:=10000010) Tryz.func31 (ah2 _) rfl (bV5 w hw _ hwi.1 b hb _ (fun i hi c hc=>aQ8 hi hc))
   ·exact m7 (E:=EX md0 (XKm w (y1 :: y2 :: r))) (cr:=noR) hX (q7 _) mixed (k:=10000010) Tryz.func31 (ah2 _) rfl (bA4 w hw _ (by simp) hwi.1 b hb _ (fun i hi c hc=>aQ8 hi hc) (fun a c=>bh8))
  ·have hX : s6 Tryz.prog (XE w [x] 0 0):=l8 (l8 (l8 (l8 (t6 _) (n8 (fun args r h'=>by obtain ⟨c,h1,rfl,rfl⟩:=h';exact ba8 w hw x hkids 0 0 (by omega) (by omega) c h1))) (n8 (fun args r h'=>by obtain ⟨c,h1,rfl,rfl⟩:=h';exact br1 w hw x hkids c h1))) (n8 aQ7)) (n8 (fun args r h'=>by obtain ⟨i,c,h1,h2,rfl,rfl⟩:=h';exact hkids i h1 c h2))
   exact m7 (E:=EX md0 (XE w [x] 0 0)) (cr:=noR) hX (q7 _) mixed (k:=10000010) Tryz.func31 (ah2 _) rfl (bV6 w hw k hk x b hb _ (o8 (bU6 w [x]) ⟨0,b,by simp,hb,rfl,rfl⟩) (fun a c h1 h2=>o8 bq9 ⟨a,c,h1,h2,rfl,rfl⟩) (o8 (cH9 w x) ⟨b,hb,rfl,rfl⟩))
  ·obtain ⟨lo',rfl⟩ : ∃ n : Nat,lo = n:=⟨lo.toNat,by omega⟩
   obtain ⟨hi',rfl⟩ : ∃ n : Nat,hi = n:=⟨hi.toNat,by omega⟩
   have hX : s6 Tryz.prog (XE w [x] lo' hi'):=l8 (l8 (l8 (l8 (t6 _) (n8 (fun args r h'=>by obtain ⟨c,h1',rfl,rfl⟩:=h';exact ba8 w hw x hkids lo' hi' (by omega) (by omega) c h1'))) (n8 (fun args r h'=>by obtain ⟨c,h1,rfl,rfl⟩:=h';exact br1 w hw x hkids c h1))) (n8 aQ7)) (n8 (fun args r h'=>by obtain ⟨i,c,h1,h2,rfl,rfl⟩:=h';exact hkids i h1 c h2))
   exact m7 (E:=EX md0 (XE w [x] lo' hi')) (cr:=noR) hX (q7 _) mixed (k:=10000010) Tryz.func31 (ah2 _) rfl (cn7 w hw lo' hi' x b hb _ (o8 (di4 w x lo' hi') ⟨b,hb,rfl,rfl⟩))
termination_by n=>SizeOf.sizeOf n
decreasing_by
 exact this
theorem bV8 (X) : d9 (EX md0 X) (fun r=>if r = 1 then some [(0,5)] else none) 2 Tryz.f14 = true := by kernel_rfl
open Classical in
noncomputable def af2 (n : Nd) (w : List Int) : Bool := decide (Mt w n 0 w.length)
def dr9 (n : Nd) (w : List Int) (args : List AV) (r : AV) : Prop := ∃ b : List Bool,b.length = w.length+1∧args = [j5 n,slI w,slB b]∧r = slB (B0 (Mt w n) b)
theorem cI0 (n w) : N2 (dr9 n w) := by
 rintro args r r' ⟨b,_,rfl,rfl⟩ ⟨b',_,h,rfl⟩
 simp only[List.cons.injEq,AV.sl.injEq,and_true,true_and] at h
 rw[ah9 h.2]
def ds0 (args : List AV) (r : AV) : Prop := ∃ n : Nat,0 < n∧n≤10000000∧args = [.int .i64 n,.int .i64 0]∧r = slB (aQ6 n)
theorem cI1 : N2 ds0 := by
 rintro args r r' ⟨n,_,_,rfl,rfl⟩ ⟨n',_,_,h,rfl⟩
 simp only[List.cons.injEq,AV.int.injEq,and_true,true_and] at h
 have : n = n':=by omega
 rw[this]
theorem cn8 (n : Nd) (w : List Int) (hr : A4 n = true) (hwi : aq3 n = true) (hw : w.length≤1000000) : Ok Tryz.prog 14 [j5 n,slI w] (.bool (af2 n w)) := by
 refine m7 (E:=EX md0 (t7 [(31,D9 (dr9 n w)),(32,D9 ds0)])) (cr:=noR) (l8 (l8 (t6 _) (n8 (fun args r h=>by obtain ⟨m,h1,h2,rfl,rfl⟩:=h;exact cH7 m h1 h2))) (n8 (fun args r h=>by obtain ⟨b,h1,rfl,rfl⟩:=h;exact bV7 w hw n hr hwi b h1))) (q7 _) mixed (k:=10) Tryz.func14 (bV8 _) rfl ?_
 have hol : (aQ6 (w.length+1)).length = w.length+1:=by simp[aQ6]
 have e1 : t7 [(31,D9 (dr9 n w)),(32,D9 ds0)] 32 [.int .i64 ((w.length+1 : Nat) : Int),.int .i64 0] = some (slB (aQ6 (w.length+1))):=o8 cI1 ⟨w.length+1,by omega,by omega,rfl,rfl⟩
 have e2 : t7 [(31,D9 (dr9 n w)),(32,D9 ds0)] 31 [j5 n,slI w,slB (aQ6 (w.length+1))] = some (slB (B0 (Mt w n) (aQ6 (w.length+1)))):=o8 (cI0 n w) ⟨_,hol,rfl,rfl⟩
 have e3 : ((w.length+1 : Nat) : Int) = (w.length : Int)+1:=by omega
 rw[e3] at e1
 have hel : (B0 (Mt w n) (aQ6 (w.length+1))).length = w.length+1:=by rw[p7,hol]
 have hone : ∀ i,(aQ6 (w.length+1)).getD i false = true ↔ i = 0:=fun i=>by
  rw[aQ6,ao3]
  split
  ·rename_i h;exact ⟨fun _=>h.1.symm,fun _=>rfl⟩
  ·rename_i h
   have : (List.replicate (w.length+1) false).getD i false = false:=by
    rw[List.getD_eq_getElem?_getD,List.getElem?_replicate]
    split <;> rfl
   rw[this]
   constructor
   ·intro h';cases h'
   ·rintro rfl
    exact absurd ⟨rfl,by simp⟩ h
 have hget:=L3 (l:=B0 (Mt w n) (aQ6 (w.length+1))) (i:=w.length) (s:=1) (by omega)
 have hm : (B0 (Mt w n) (aQ6 (w.length+1))).getD w.length false = af2 n w:=by
  classical
  rw[Bool.eq_iff_iff,N1,hol,af2,decide_eq_true_eq]
  constructor
  ·rintro ⟨_,i,h1,h2⟩
   rw[hone] at h1
   subst h1
   exact h2
  ·exact fun h=>⟨by omega,0,(hone 0).2 rfl,h⟩
 rw[hm] at hget
 obtain ⟨k,s,lo,hi,l⟩:=n
 simp only[j5,n7] at e2
 simp only[Tryz.f14,Option.getD_some,j5,n7]
 generalize B0 (Mt w (.mk k s lo hi l)) (aQ6 (w.length+1)) = R at *
 generalize aQ6 (w.length+1) = O at *
 have n1 : (1 : Nat) = 1:=rfl
 simp (disch:=omega) only[go_sem,e1,e2,hget,hel]
end Go.Proofs.YtpmjpogcaglphaaGreatDoor.A
