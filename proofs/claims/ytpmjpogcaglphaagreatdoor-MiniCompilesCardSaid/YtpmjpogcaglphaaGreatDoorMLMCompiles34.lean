/- Sizes of trees, lengths of their texts: plainly. -/
import Derived.Test.YtpmjpogcaglphaaGreatDoorMLMCompiles9
import Derived.Test.YtpmjpogcaglphaaGreatDoorMLMCompiles33
set_option linter.unusedVariables false
set_option linter.unusedSimpArgs false
set_option linter.unnecessarySimpa false
namespace Go.Proofs.YtpmjpogcaglphaaGreatDoor.A
open Go
set_option maxRecDepth 20000
mutual
def szN : Nd→Nat
 | .mk _ _ _ _ l=>1+Z8 l
def Z8 : List Nd→Nat
 | []=>0
 | x :: l=>szN x+Z8 l
end
theorem cG5 (x : Nd) : 1≤szN x := by cases x;rw[szN];omega
theorem P1 (l m : List Nd) : Z8 (l++m) = Z8 l+Z8 m := by
 induction l with
 | nil=>rw[Z8];simp
 | cons x l ih=>rw[List.cons_append,Z8,Z8,ih];omega
mutual
theorem bp8 : ∀ n : Nd,aG6 n = true→szN n < 5 ^ dN n
 | .mk k s lo hi l,h=>by
  rw[aG6,Bool.and_eq_true,decide_eq_true_eq] at h
  have:=aZ6 l h.2
  rw[szN,dN,Nat.pow_succ]
  have : l.length * (5 ^ dNs l - 1)≤4 * (5 ^ dNs l - 1):=Nat.mul_le_mul_right _ h.1
  have:=Nat.one_le_pow (dNs l) 5 (by omega)
  omega
theorem aZ6 : ∀ l : List Nd,ad8 l = true→Z8 l≤l.length * (5 ^ dNs l - 1)
 | [],_=>by rw[Z8];omega
 | x :: l,h=>by
  rw[ad8,Bool.and_eq_true] at h
  have h1:=bp8 x h.1
  have h2:=aZ6 l h.2
  have h3 : 5 ^ dN x≤5 ^ max (dN x) (dNs l):=Nat.pow_le_pow_right (by omega) (by omega)
  have h4 : 5 ^ dNs l≤5 ^ max (dN x) (dNs l):=Nat.pow_le_pow_right (by omega) (by omega)
  rw[Z8,dNs,List.length_cons,Nat.succ_mul]
  have : l.length * (5 ^ dNs l - 1)≤l.length * (5 ^ max (dN x) (dNs l) - 1):=Nat.mul_le_mul_left _ (by omega)
  omega
end
mutual
theorem dg9 : ∀ n : Nd,bd n≤dN n∧bd5 n≤dN n
 | .mk k s lo hi l=>by
  have:=bh3 l
  rw[bd,bd5,dN]
  constructor <;> split <;> (try split) <;> omega
theorem bh3 : ∀ l : List Nd,bds l≤dNs l∧bB2 l≤dNs l
 | []=>by rw[bds,bB2,dNs];omega
 | x :: l=>by
  have h1:=dg9 x
  have h2:=bh3 l
  rw[bds,bB2,dNs]
  omega
end
theorem dh0 (n : Nd) : bd0 n≤dN n := by
 obtain ⟨k,s,lo,hi,l⟩:=n
 have:=bh3 l
 rw[bd0,dN]
 split <;> omega
theorem cG6 : ∀ q : Fin 31,(bB0 (q.1+1)).length≤7 := by decide +kernel
theorem aZ7 (k : Int) (sep : List UInt8) (hs : sep.length≤1) : ∀ l : List Nd,(∀ x ∈ l,(p6 k x).length+1≤9 * szN x)→l ≠ []→(Lib.join (y6 k l) sep).length+1≤9 * Z8 l
 | [],_,h=>absurd rfl h
 | [x],h,_=>by
  rw[y6,y6,R8,Z8,Z8]
  exact h x (by simp)
 | x :: y :: l,h,_=>by
  have h1:=h x (by simp)
  have h2:=aZ7 k sep hs (y :: l) (fun z hz=>h z (List.mem_cons_of_mem _ hz)) (by simp)
  have e : y6 k (x :: y :: l) = p6 k x :: p6 k y :: y6 k l:=by rw[y6,y6]
  have e2 : y6 k (y :: l) = p6 k y :: y6 k l:=by rw[y6]
  have e3 : Z8 (x :: y :: l) = szN x+Z8 (y :: l):=by rw[Z8]
  rw[e2] at h2
  rw[e,G6,List.length_append,List.length_append,e3]
  omega
theorem bp9 : ∀ (n : Nd) (w : Int),A4 n = true→(p6 w n).length+1≤9 * szN n
 | .mk k s lo hi l,w,hr=>by
  obtain ⟨hx,hc⟩:=A8 hr
  have hkid : ∀ x ∈ l,(p6 k x).length+1≤9 * szN x:=fun x hm=>by
   have : SizeOf.sizeOf x < SizeOf.sizeOf (Nd.mk k s lo hi l):=by
    have:=List.sizeOf_lt_of_mem hm
    simp only[Nd.mk.sizeOf_spec]
    omega
   exact bp9 x k (hx x hm)
  rw[szN]
  rcases hc with ⟨rfl,rfl,rfl,rfl,h0,h1⟩ | ⟨hk,rfl,rfl,rfl,rfl⟩ | ⟨hk,rfl,rfl,rfl,y1,y2,r,rfl⟩ | ⟨hk,rfl,rfl,rfl,x,rfl⟩ | ⟨rfl,rfl,h0,h1,h2,x,rfl⟩
  ·rw[p6,if_pos rfl]
   have:=cG6 ⟨s.toNat - 1,by omega⟩
   rw[show s.toNat - 1+1 = s.toNat by omega] at this
   omega
  ·rcases hk with rfl | rfl
   ·rw[p6,if_neg (by decide),if_pos rfl];simp;omega
   ·rw[p6,if_neg (by decide),if_neg (by decide),if_pos rfl];simp;omega
  ·rw[p6,if_neg (by omega),if_neg (by omega),if_neg (by omega),if_pos hk,cr5]
   have:=aZ7 k (if k = 5 then [124] else []) (by split <;> simp) _ hkid (by simp)
   split
   ·simp only[List.length_cons,List.length_append,List.length_nil];omega
   ·omega
  ·have:=hkid x (by simp)
   rw[p6,if_neg (by omega),if_neg (by omega),if_neg (by omega),if_neg (by omega),y6,Z8,Z8,List.headD_cons,List.length_append]
   have : (by8 k 0 0).length≤5:=by
    unfold by8
    repeat' split
    all_goals simp
   omega
  ·have:=hkid x (by simp)
   rw[p6,if_neg (by omega),if_neg (by omega),if_neg (by omega),if_neg (by omega),y6,Z8,Z8,List.headD_cons,List.length_append]
   have : (by8 9 lo hi).length≤5:=by
    unfold by8
    repeat' split
    all_goals simp
   omega
termination_by n=>SizeOf.sizeOf n
decreasing_by
 exact this
theorem cG7 {l : List Rw} (h : cq2 l = true) : A4 (ao7 l) = true∧aq3 (ao7 l) = true∧szN (ao7 l)≤1000000∧(∀ w,(p6 w (ao7 l)).length≤9000000)∧bd0 (ao7 l)≤8∧bd (ao7 l)≤8∧bd5 (ao7 l)≤8 := by
 obtain ⟨h1,h2,h3⟩:=bm2 h
 have h4:=bp8 _ h2
 have h5 : 5 ^ dN (ao7 l)≤5 ^ 8:=Nat.pow_le_pow_right (by omega) h3
 have h6:=dg9 (ao7 l)
 have h7:=dh0 (ao7 l)
 have e : 5 ^ 8 = 390625:=by decide
 refine ⟨h1,aV9 _ h2,by omega,fun w=>?_,by omega,by omega,by omega⟩
 have:=bp9 (ao7 l) w h1
 omega
set_option maxRecDepth 20000
theorem cr6 (x : Nd) : bd5 x≤bd x∧bd x≤bd5 x+1∧bd0 x≤bd5 x := by
 obtain ⟨k,s,lo,hi,l⟩:=x
 rw[bd5,bd,bd0]
 split
 ·rename_i h;subst h;rw[if_neg (by decide)];omega
 ·split <;> omega
theorem aZ8 {c : Nat} : ∀ {l : List Nd},(∀ x ∈ l,bd x≤c)→bds l≤c
 | [],_=>by rw[bds];omega
 | x :: l,h=>by
  have h1:=h x (by simp)
  have h2:=aZ8 (fun y hy=>h y (List.mem_cons_of_mem _ hy))
  rw[bds];omega
theorem aL8 {c : Nat} : ∀ {l : List Nd},(∀ x ∈ l,bd5 x≤c)→bB2 l≤c
 | [],_=>by rw[bB2];omega
 | x :: l,h=>by
  have h1:=h x (by simp)
  have h2:=aL8 (fun y hy=>h y (List.mem_cons_of_mem _ hy))
  rw[bB2];omega
theorem an8 (k : Int) (x y : Nd) (l : List Nd) : A6 k (x :: y :: l) = .mk k 0 0 0 (x :: y :: l) := rfl
theorem as2 {k : Int} (hk : k = 4 ∨ k = 5) {l : List Nd} (hne : l ≠ []) (h : ∀ x ∈ l,A4 x = true) : A4 (A6 k l) = true := by
 match l,hne with
 | [x],_=>exact h x (by simp)
 | x :: y :: l,_ =>
  rw[an8,A4,aB7,List.all_eq_true.2 h]
  rcases hk with rfl | rfl <;> simp[aj0,Z3]
theorem aP8 {k : Int} {l : List Nd} (hne : l ≠ []) : szN (A6 k l)≤1+Z8 l := by
 match l,hne with
 | [x],_=>show szN x≤_;rw[Z8,Z8];omega
 | x :: y :: l,_=>rw[an8,szN];omega
theorem cl4 {J : List Nd} {c : Nat} (hne : J ≠ []) (h : ∀ x ∈ J,bd x≤c) : bd5 (A6 4 J)≤c := by
 match J,hne with
 | [x],_=>have:=h x (by simp);have:=cr6 x;show bd5 x≤c;omega
 | x :: y :: l,_=>rw[an8,bd5,if_pos rfl];exact aZ8 h
theorem bq0 {U : List Nd} {c : Nat} (hne : U ≠ []) (h : ∀ x ∈ U,bd5 x≤c) : bd (A6 5 U)≤c+1∧bd0 (A6 5 U)≤c := by
 match U,hne with
 | [x],_=>have:=h x (by simp);have:=cr6 x;show bd x≤c+1∧bd0 x≤c;omega
 | x :: y :: l,_ =>
  have:=aL8 h
  rw[an8,bd,bd0,if_neg (by decide),if_pos rfl,if_pos rfl]
  omega
def GoodN (k : Nat) (U J : List Nd) : Prop := (∀ x ∈ U,A4 x = true∧bd5 x+k≤30)∧(∀ x ∈ J,A4 x = true∧bd x+k≤30)
def dh1 : Lvs→Prop
 | []=>True
 | (U,J) :: B=>GoodN B.length U J∧dh1 B
def szB : Lvs→Nat
 | []=>0
 | (U,J) :: B=>Z8 U+Z8 J+szB B
theorem bh4 {c : UInt8} (h : ab6 (F8 c.toNat) ≠ 0) : A4 (F8 c.toNat) = true∧bd (F8 c.toNat) = 0∧szN (F8 c.toNat) = 1 := by
 rcases cg4 h with rfl | rfl | rfl | rfl | rfl | rfl | rfl | rfl <;> exact ⟨by decide,by decide,by decide⟩
theorem cG8 (s : List UInt8) (a : Int) : ∃ c : UInt8,z7 s a = c.toNat := ⟨s.getD a.toNat 0,rfl⟩
theorem aP9 (s : List UInt8) : ∀ (m : Nat) (a out : Int),0≤out→out≤31→0≤(B8 s m a out).1∧(B8 s m a out).1≤31∧((B8 s m a out).2.1 = true→0 < (B8 s m a out).1∧(B8 s m a out).2.2 < a+m)
 | 0,a,out,_,_=>by rw[B8];exact ⟨by simp,by simp,by simp⟩
 | m+1,a,out,h0,h1=>by
  rw[B8]
  split
  ·refine ⟨h0,h1,fun h=>?_⟩
   simp only[Bool.and_eq_true,decide_eq_true_eq] at h
   exact ⟨h.1,by show a < a+((m+1 : Nat) : Int);omega⟩
  ·rename_i hs
   have h2:=aw6 (z7 s a)
   have h3:=bM9 h0 h1 (by omega : 0≤I1 (z7 s a)) h2
   have h4:=aP9 s m (a+1) _ h3.1 h3.2
   exact ⟨h4.1,h4.2.1,fun h=>⟨(h4.2.2 h).1,by have:=(h4.2.2 h).2;omega⟩⟩
theorem bq1 (s : List UInt8) (a : Int) (h : ¬ B7 s a < 0) : 0≤B7 s a∧B7 s a≤9 := by
 refine ⟨by omega,?_⟩
 unfold B7 at h ⊢
 split
 ·omega
 ·split <;> omega
theorem bq2 (s : List UInt8) (a : Int) (h0 : 0≤a) (h : ¬ 0≤(y9 s a).2.2) : 0≤(y9 s a).1∧(y9 s a).1≤(y9 s a).2.1∧(y9 s a).2.1≤9∧a+5≤s.length := by
 unfold y9 at h ⊢
 have hl : (0 : Int)≤s.length:=Int.natCast_nonneg _
 split at h
 ·exact absurd hl h
 rename_i c1
 split at h
 ·exact absurd h0 h
 rename_i c2
 split at h
 ·rename_i c;exact absurd c h
 rename_i c3
 split at h
 ·exact absurd hl h
 rename_i c4
 split at h
 ·exact absurd h0 h
 rename_i c5
 split at h
 ·rename_i c;exact absurd c h
 rename_i c6
 split at h
 ·exact absurd h0 h
 rename_i c7
 rw[if_neg c1,if_neg c2,if_neg c3,if_neg c4,if_neg c5,if_neg c6,if_neg c7]
 have d1:=bq1 s _ c2
 have d2:=bq1 s _ c5
 refine ⟨d1.1,by show B7 s (a+1)≤B7 s (a+3);omega,d2.2,?_⟩
 have : ¬ (s.length : Int)≤a+4:=fun h'=>c6 (by rw[D7,if_pos h'];omega)
 omega
theorem cG9 {J : List Nd} (h : J ≠ []) : ∃ J' x,J = J'++[x] := ⟨J.dropLast,J.getLast h,(List.dropLast_concat_getLast h).symm⟩
theorem GoodN.snoc {k U J x} (h : GoodN k U J) (h1 : A4 x = true) (h2 : bd x+k≤30) : GoodN k U (J++[x]) := ⟨h.1,fun y hy=>by
 rcases List.mem_append.1 hy with hy | hy
 ·exact h.2 y hy
 ·rw[List.mem_singleton.1 hy];exact ⟨h1,h2⟩⟩
theorem J7 (x : Nd) : Z8 [x] = szN x := by rw[Z8,Z8];omega
theorem GoodN.bar {k U J} (h : GoodN k U J) (hJ : J ≠ []) (hk : k≤30) : ∀ x ∈ U++[A6 4 J],A4 x = true∧bd5 x≤30 - k := by
 intro x hx
 rcases List.mem_append.1 hx with hx | hx
 ·have:=h.1 x hx;exact ⟨this.1,by omega⟩
 ·rw[List.mem_singleton.1 hx]
  exact ⟨as2 (.inl rfl) hJ (fun y hy=>(h.2 y hy).1),cl4 hJ (fun y hy=>by have:=(h.2 y hy).2;omega)⟩
def bq3 (s : List UInt8) (R : Nd × Int × Int) : Prop := (R.2.2 = 0→A4 R.1 = true∧bd0 R.1≤30∧szN R.1≤2 * s.length+2)∧(R.2.2 ≠ 0→R.1 = B2)
theorem W6 (s : List UInt8) : ∀ (f : Nat) (a : Nat) (U J : List Nd) (B : Lvs),a≤s.length→GoodN B.length U J→dh1 B→B.length≤30→Z8 U+Z8 J+szB B≤2 * a→bq3 s (pGo s f a U J B)
 | 0,a,U,J,B,_,_,_,_,_=>by rw[pGo];exact ⟨fun h=>absurd h (show ¬ (3 : Int) = 0 by decide),fun _=>rfl⟩
 | f+1,a,U,J,B,ha,hg,hB,hb,hsz=>by
  have bad : ∀ (p e : Int),e ≠ 0→bq3 s (B2,p,e):=fun p e he=>⟨fun h=>absurd h he,fun _=>rfl⟩
  obtain ⟨c,hc⟩:=cG8 s a
  rw[pGo,hc]
  split
  ·split
   ·exact bad _ _ (by decide)
   ·rename_i h1 h2
    have hJ : J ≠ []:=fun e=>h2 (.inr e)
    have hBn : B = []:=Classical.not_not.1 (fun e=>h2 (.inl e))
    subst hBn
    have hbar:=hg.bar hJ (by simp)
    have hne : U++[A6 4 J] ≠ []:=by simp
    have h3:=bq0 (c:=30) hne (fun x hx=>by have:=(hbar x hx).2;simpa using this)
    have h4:=aP8 (k:=4) hJ
    have h5:=aP8 (k:=5) hne
    rw[P1,J7] at h5
    rw[szB] at hsz
    exact ⟨fun _=>⟨as2 (.inr rfl) hne (fun x hx=>(hbar x hx).1),h3.2,by show szN (A6 5 (U++[A6 4 J]))≤_;omega⟩,fun h=>absurd rfl h⟩
  rename_i hlt
  have e1 : (a : Int)+1 = ((a+1 : Nat) : Int):=by omega
  split
  ·rename_i hp
   obtain ⟨h1,h2,h3⟩:=bh4 hp
   rw[e1]
   exact W6 s f (a+1) U _ B (by omega) (hg.snoc h1 (by omega)) hB hb (by rw[P1,J7];omega)
  split
  ·have h1:=aP9 s (s.length - ((a : Int)+1).toNat) (a+1) 0 (by omega) (by omega)
   have h2:=Z6 s (s.length - ((a : Int)+1).toNat) (a+1) 0
   generalize B8 s (s.length - ((a : Int)+1).toNat) (a+1) 0 = q at *
   obtain ⟨q1,q2,q3⟩:=q
   simp only at h1 h2 ⊢
   split
   ·exact bad _ _ (by decide)
   ·rename_i hq
    have hq' : q2 = true:=by simpa using hq
    have h3:=h1.2.2 hq'
    obtain ⟨p,hp⟩ : ∃ p : Nat,q3+1 = p:=⟨(q3+1).toNat,by omega⟩
    rw[hp]
    refine W6 s f p U _ B (by omega) (hg.snoc (by rw[A4,O1,bl9 ⟨by omega,by omega⟩];rfl) (by rw[bd,bds];simp;exact hb)) hB hb (by rw[P1,J7,szN,Z8];omega)
  split
  ·split
   ·exact bad _ _ (by decide)
   ·rename_i hlen
    rw[e1]
    exact W6 s f (a+1) [] [] ((U,J) :: B) (by omega) ⟨fun x hx=>(by cases hx),fun x hx=>(by cases hx)⟩ ⟨hg,hB⟩ (by rw[List.length_cons];omega) (by rw[szB,Z8];omega)
  split
  ·exact bad _ _ (by decide)
  rename_i hJ
  obtain ⟨J',x,rfl⟩:=cG9 hJ
  have hx:=hg.2 x (by simp)
  have hg' : GoodN B.length U J':=⟨hg.1,fun y hy=>hg.2 y (List.mem_append_left _ hy)⟩
  rw[P1,J7] at hsz
  split
  ·have h1:=bq2 s a (by omega)
   generalize y9 s a = q at *
   obtain ⟨lo,hi,w⟩:=q
   simp only at h1 ⊢
   split
   ·rename_i hw;exact bad _ _ (by decide)
   ·rename_i hw
    obtain ⟨g1,g2,g3,g4⟩:=h1 hw
    rw[Z7,show (a : Int)+5 = ((a+5 : Nat) : Int) by omega]
    refine W6 s f (a+5) U _ B (by omega) (hg'.snoc ?_ ?_) hB hb (by rw[P1,J7,szN,J7];omega)
    ·rw[A4,O1,O1,hx.1]
     simp[aj0,Z3];omega
    ·rw[bd,if_neg (by decide),if_neg (by decide),bds,bds];omega
  split
  ·rename_i h9 hk0
   rw[Z7,e1]
   have hk : G5 c.toNat = 6 ∨ G5 c.toNat = 7 ∨ G5 c.toNat = 8:=by
    unfold G5 at h9 hk0 ⊢
    repeat' split
    all_goals (first | omega | (simp_all))
   refine W6 s f (a+1) U _ B (by omega) (hg'.snoc ?_ ?_) hB hb (by rw[P1,J7,szN,J7];omega)
   ·rw[A4,O1,O1,hx.1]
    rcases hk with e | e | e <;> rw[e] <;> rfl
   ·rw[bd,if_neg (by omega),if_neg (by omega),bds,bds];omega
  have hbar:=hg.bar hJ hb
  have h4:=aP8 (k:=4) hJ
  rw[P1,J7] at h4
  split
  ·rw[e1]
   exact W6 s f (a+1) _ [] B (by omega) ⟨fun y hy=>⟨(hbar y hy).1,by have:=(hbar y hy).2;omega⟩,fun x hx=>(by cases hx)⟩ hB hb (by rw[P1,J7,Z8];omega)
  split
  ·rename_i hcl
   obtain ⟨⟨U0,J0⟩,B',rfl⟩ : ∃ p B',B = p :: B':=by
    cases B with
    | nil=>exact absurd rfl hcl.2
    | cons p B'=>exact ⟨p,B',rfl⟩
   have hne : U++[A6 4 (J'++[x])] ≠ []:=by simp
   rw[List.length_cons] at hbar hb
   have h3:=bq0 hne (fun y hy=>(hbar y hy).2)
   have h5:=aP8 (k:=5) hne
   rw[P1,J7] at h5
   rw[szB] at hsz
   rw[e1]
   show bq3 s (pGo s f ((a+1 : Nat) : Int) U0 (J0++[A6 5 (U++[A6 4 (J'++[x])])]) B')
   exact W6 s f (a+1) U0 _ B' (by omega) (hB.1.snoc (as2 (.inr rfl) hne (fun y hy=>(hbar y hy).1)) (by omega)) hB.2 (by omega) (by rw[P1,J7];omega)
  ·exact bad _ _ (by decide)
theorem bz3 (s : List UInt8) : bq3 s (v7 s) := by
 rw[v7]
 split
 ·exact ⟨fun h=>absurd h (by decide),fun _=>rfl⟩
 ·exact W6 s (s.length+1) 0 [] [] [] (by omega) ⟨fun x hx=>(by cases hx),fun x hx=>(by cases hx)⟩ trivial (by simp) (by simp[Z8,szB])
end Go.Proofs.YtpmjpogcaglphaaGreatDoor.A
