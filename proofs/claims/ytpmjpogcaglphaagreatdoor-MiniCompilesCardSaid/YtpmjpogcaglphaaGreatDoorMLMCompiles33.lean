/- What is written of a right expression is read as it was. -/
import Derived.Lib.Join
import Derived.Test.YtpmjpogcaglphaaGreatDoorMLMCompiles20
set_option linter.unusedVariables false
set_option linter.unusedSimpArgs false
set_option linter.unnecessarySimpa false
namespace Go.Proofs.YtpmjpogcaglphaaGreatDoor.A
open Go
set_option maxRecDepth 20000
def by8 (k lo hi : Int) : List UInt8 := if k = 6 then [42] else if k = 7 then [43] else if k = 8 then [63] else [123,dig lo.toNat,44,dig hi.toNat,125]
def cr5 (b : Bool) (t : List UInt8) : List UInt8 := if b then 40 :: t++[41] else t
mutual
def p6 (w : Int) : Nd→List UInt8
 | .mk k s lo hi l=>if k = 1 then bB0 s.toNat else if k = 2 then [48] else if k = 3 then [95]
  else if k = 4 ∨ k = 5 then cr5 (decide (w ≠ 0∧(k = 5 ∨ w ≠ 5))) (Lib.join (y6 k l) (if k = 5 then [124] else []))
  else (y6 k l).headD []++by8 k lo hi
def y6 (w : Int) : List Nd→List (List UInt8)
 | []=>[]
 | x :: l=>p6 w x :: y6 w l
end
theorem aL4 (w : Int) (l : List Nd) : y6 w l = l.map (p6 w) := by
 induction l with
 | nil=>rw[y6];rfl
 | cons x l ih=>rw[y6,ih,List.map_cons]
mutual
def bd : Nd→Nat
 | .mk k _ _ _ l=>if k = 4 then 1+bds l else if k = 5 then 1+bB2 l else bds l
def bd5 : Nd→Nat
 | .mk k _ _ _ l=>if k = 4 then bds l else if k = 5 then 1+bB2 l else bds l
def bds : List Nd→Nat
 | []=>0
 | x :: l=>max (bd x) (bds l)
def bB2 : List Nd→Nat
 | []=>0
 | x :: l=>max (bd5 x) (bB2 l)
end
def bd0 : Nd→Nat
 | .mk k _ _ _ l=>if k = 5 then bB2 l else bds l
theorem R8 (t sep : List UInt8) : Lib.join [t] sep = t := by simp[Lib.join,List.intercalate]
theorem G6 (t u : List UInt8) (l : List (List UInt8)) (sep : List UInt8) : Lib.join (t :: u :: l) sep = t++(sep++Lib.join (u :: l) sep) := by simp[Lib.join,List.intercalate]
theorem aF1 (l : List (List UInt8)) : Lib.join l [] = l.flatten := by
 induction l with
 | nil=>rfl
 | cons t l ih =>
  cases l with
  | nil=>simp[R8]
  | cons u l=>rw[G6,ih];rfl
def as1 (n : Nd) : Prop := ∀ (w : Int),w = 4 ∨ 6≤w→∀ s a U J B,TAt s a (p6 w n)→B.length+bd n≤30→pG s a U J B = pG s (a+(p6 w n).length) U (J++[n]) B
theorem bp2 {l : List Nd} (hl : ∀ x ∈ l,as1 x) {w : Int} (hw : w = 4 ∨ 6≤w) : ∀ {s a U J B},TAt s a (y6 w l).flatten→B.length+bds l≤30→pG s a U J B = pG s (a+(y6 w l).flatten.length) U (J++l) B := by
 induction l with
 | nil =>
  intro s a U J B h hb
  rw[y6]
  simp
 | cons x l ih =>
  intro s a U J B h hb
  rw[y6,List.flatten_cons] at h ⊢
  rw[bds] at hb
  obtain ⟨h1,h2⟩:=h.app
  rw[hl x List.mem_cons_self w hw s a U J B h1 (by omega),ih (fun y hy=>hl y (List.mem_cons_of_mem _ hy)) h2 (by omega),List.append_assoc,List.length_append]
  congr 1
  omega
theorem aZ2 {x : Nd} (hr : A4 x = true) (hp : as1 x) (hk : ∀ k s lo hi l,x = .mk k s lo hi l→∀ y ∈ l,as1 y) {s a U B} (h : TAt s a (p6 5 x)) (hb : B.length+bd5 x≤30) :
  ∃ J',J' ≠ []∧A6 4 J' = x∧pG s a U [] B = pG s (a+(p6 5 x).length) U J' B:=by
 obtain ⟨k,se,lo,hi,l⟩:=x
 obtain ⟨hx,hc⟩:=A8 hr
 by_cases h4 : k = 4
 ·subst h4
  have hcc : se = 0∧lo = 0∧hi = 0∧∃ x y r,l = x :: y :: r:=by
   rcases hc with h | h | h | h | h
   ·exact absurd h.1 (by decide)
   ·exact absurd h.1 (by decide)
   ·exact h.2
   ·exact absurd h.1 (by decide)
   ·exact absurd h.1 (by decide)
  obtain ⟨rfl,rfl,rfl,y1,y2,r,rfl⟩:=hcc
  have et : p6 5 (.mk 4 0 0 0 (y1 :: y2 :: r)) = (y6 4 (y1 :: y2 :: r)).flatten:=by
   rw[p6,if_neg (by decide),if_neg (by decide),if_neg (by decide),if_pos (.inl rfl),if_neg (by decide),aF1]
   rfl
  rw[et] at h ⊢
  rw[bd5,if_pos rfl] at hb
  refine ⟨y1 :: y2 :: r,by simp,rfl,?_⟩
  exact bp2 (hk _ _ _ _ _ rfl) (.inl rfl) h hb
 ·have et : p6 5 (.mk k se lo hi l) = p6 4 (.mk k se lo hi l):=by
   rw[p6,p6]
   by_cases h5 : k = 5 <;> simp[h4,h5]
  have eb : bd5 (.mk k se lo hi l) = bd (.mk k se lo hi l):=by rw[bd5,bd,if_neg h4,if_neg h4]
  rw[et] at h ⊢
  exact ⟨[.mk k se lo hi l],by simp,rfl,hp 4 (.inl rfl) s a U [] B h (by omega)⟩
theorem aL5 {l : List Nd} (hr : ∀ x ∈ l,A4 x = true) (hp : ∀ x ∈ l,as1 x) (hk : ∀ x ∈ l,∀ k s lo hi l',x = .mk k s lo hi l'→∀ y ∈ l',as1 y) (hne : l ≠ []) : ∀ {s a U B},TAt s a (Lib.join (y6 5 l) [124])→B.length+bB2 l≤30 →
  ∃ U' J',J' ≠ []∧U'++[A6 4 J'] = U++l∧pG s a U [] B = pG s (a+(Lib.join (y6 5 l) [124]).length) U' J' B:=by
 induction l with
 | nil=>exact absurd rfl hne
 | cons x l ih =>
  intro s a U B h hb
  rw[bB2] at hb
  have hx:=List.mem_cons_self (a:=x) (l:=l)
  cases l with
  | nil =>
   rw[y6,y6,R8] at h ⊢
   obtain ⟨J',h1,h2,h3⟩:=aZ2 (hr x hx) (hp x hx) (hk x hx) (U:=U) (B:=B) h (by omega)
   exact ⟨U,J',h1,by rw[h2],h3⟩
  | cons y l =>
   have e : Lib.join (y6 5 (x :: y :: l)) [124] = p6 5 x++(124 :: Lib.join (y6 5 (y :: l)) [124]):=by
    rw[y6,y6,G6];rfl
   rw[e] at h ⊢
   obtain ⟨g1,g2⟩:=h.app
   obtain ⟨J',h1,h2,h3⟩:=aZ2 (hr x hx) (hp x hx) (hk x hx) (U:=U) (B:=B) g1 (by omega)
   obtain ⟨_,g3⟩:=g2.cons
   obtain ⟨U'',J'',h4,h5,h6⟩:=ih (fun z hz=>hr z (List.mem_cons_of_mem _ hz)) (fun z hz=>hp z (List.mem_cons_of_mem _ hz)) (fun z hz=>hk z (List.mem_cons_of_mem _ hz)) (by simp) (U:=U++[A6 4 J']) (B:=B) g3 (by omega)
   refine ⟨U'',J'',h4,by rw[h5,h2];simp,?_⟩
   rw[h3,cZ5 g2 h1,h6,List.length_append,List.length_cons]
   congr 1
   omega
theorem by9 {n : Nd} (hr : A4 n = true) (hp : as1 n) (hd : ∀ k s lo hi l,n = .mk k s lo hi l→(∀ y ∈ l,as1 y)∧∀ y ∈ l,∀ k s lo hi l',y = .mk k s lo hi l'→∀ z ∈ l',as1 z) {s a B} (h : TAt s a (p6 0 n)) (hb : B.length+bd0 n≤30) :
  ∃ U' J',J' ≠ []∧A6 5 (U'++[A6 4 J']) = n∧pG s a [] [] B = pG s (a+(p6 0 n).length) U' J' B:=by
 obtain ⟨k,se,lo,hi,l⟩:=n
 obtain ⟨hx,hc⟩:=A8 hr
 obtain ⟨hl,hll⟩:=hd _ _ _ _ _ rfl
 by_cases h45 : k = 4 ∨ k = 5
 ·have hcc : se = 0∧lo = 0∧hi = 0∧∃ x y r,l = x :: y :: r:=by
   rcases hc with h | h | h | h | h
   ·omega
   ·omega
   ·exact h.2
   ·omega
   ·omega
  obtain ⟨rfl,rfl,rfl,y1,y2,r,rfl⟩:=hcc
  rcases h45 with rfl | rfl
  ·have et : p6 0 (.mk 4 0 0 0 (y1 :: y2 :: r)) = (y6 4 (y1 :: y2 :: r)).flatten:=by
    rw[p6,if_neg (by decide),if_neg (by decide),if_neg (by decide),if_pos (.inl rfl),if_neg (by decide),aF1]
    rfl
   rw[et] at h ⊢
   rw[bd0,if_neg (by decide)] at hb
   exact ⟨[],y1 :: y2 :: r,by simp,rfl,bp2 hl (.inl rfl) h hb⟩
  ·have et : p6 0 (.mk 5 0 0 0 (y1 :: y2 :: r)) = Lib.join (y6 5 (y1 :: y2 :: r)) [124]:=by
    rw[p6,if_neg (by decide),if_neg (by decide),if_neg (by decide),if_pos (.inr rfl),if_pos rfl]
    rfl
   rw[et] at h ⊢
   rw[bd0,if_pos rfl] at hb
   obtain ⟨U',J',h1,h2,h3⟩:=aL5 hx hl hll (by simp) (U:=[]) h hb
   exact ⟨U',J',h1,by rw[h2];rfl,h3⟩
 ·have et : p6 0 (.mk k se lo hi l) = p6 4 (.mk k se lo hi l):=by
   rw[p6,p6,if_neg h45,if_neg h45]
  have eb : bd (.mk k se lo hi l) = bd0 (.mk k se lo hi l):=by rw[bd0,bd,if_neg (fun e=>h45 (.inl e)),if_neg (fun e=>h45 (.inr e)),if_neg (fun e=>h45 (.inr e))]
  rw[et] at h ⊢
  exact ⟨[],[.mk k se lo hi l],by simp,rfl,hp 4 (.inl rfl) s a [] [] B h (by omega)⟩
theorem aF2 : ∀ (N : Nat) (n : Nd),SizeOf.sizeOf n < N→A4 n = true→as1 n
 | 0,n,h,_=>by omega
 | N+1,.mk k se lo hi l,hN,hr=>by
  obtain ⟨hx,hc⟩:=A8 hr
  have hsz : ∀ x ∈ l,SizeOf.sizeOf x < SizeOf.sizeOf (Nd.mk k se lo hi l):=fun x hx=>by
   have:=List.sizeOf_lt_of_mem hx
   simp only[Nd.mk.sizeOf_spec]
   omega
  have hp : ∀ x ∈ l,as1 x:=fun x h=>aF2 N x (by have:=hsz x h;omega) (hx x h)
  have hpp : ∀ x ∈ l,∀ k s lo hi l',x = .mk k s lo hi l'→∀ y ∈ l',as1 y:=fun x h k s lo hi l' e y hy=>by
   have h1:=hsz x h
   have h2:=List.sizeOf_lt_of_mem hy
   have h3:=hx x h
   rw[e] at h1 h3
   have h4 : SizeOf.sizeOf l' < SizeOf.sizeOf (Nd.mk k s lo hi l'):=by simp only[Nd.mk.sizeOf_spec];omega
   exact aF2 N y (by omega) ((A8 h3).1 y hy)
  intro w hw s a U J B h hb
  rcases hc with ⟨rfl,rfl,rfl,rfl,h0,h1⟩ | ⟨hk,rfl,rfl,rfl,rfl⟩ | ⟨hk,rfl,rfl,rfl,y1,y2,r,rfl⟩ | ⟨hk,rfl,rfl,rfl,x,rfl⟩ | ⟨rfl,rfl,h0,h1,h2,x,rfl⟩
  ·rw[p6,if_pos rfl] at h ⊢
   rw[cZ6 h (by omega) (by omega),Int.toNat_of_nonneg (by omega)]
  ·rcases hk with rfl | rfl
   ·rw[p6,if_neg (by decide),if_pos rfl] at h ⊢
    rw[aw7 h (by decide)]
    rfl
   ·rw[p6,if_neg (by decide),if_neg (by decide),if_pos rfl] at h ⊢
    rw[aw7 h (by decide)]
    rfl
  ·-- brackets around
   have et : p6 w (.mk k 0 0 0 (y1 :: y2 :: r)) = 40 :: (p6 0 (.mk k 0 0 0 (y1 :: y2 :: r))++[41]):=by
    have : ¬ k = 1:=by omega
    have h2 : ¬ k = 2:=by omega
    have h3 : ¬ k = 3:=by omega
    rw[p6,p6,if_neg this,if_neg h2,if_neg h3,if_pos hk,if_neg this,if_neg h2,if_neg h3,if_pos hk]
    have hd : decide (w ≠ 0∧(k = 5 ∨ w ≠ 5)) = true:=decide_eq_true ⟨by omega,by omega⟩
    rw[hd]
    simp[cr5]
   have eb : bd (.mk k 0 0 0 (y1 :: y2 :: r)) = 1+bd0 (.mk k 0 0 0 (y1 :: y2 :: r)):=by
    rw[bd,bd0]
    rcases hk with rfl | rfl <;> rfl
   rw[et] at h ⊢
   obtain ⟨_,g1⟩:=h.cons
   obtain ⟨g2,g3⟩:=g1.app
   have hpn : as1 (.mk k 0 0 0 (y1 :: y2 :: r))→True:=fun _=>trivial
   -- the inside is read as a whole;it needs no piece of the node itself
   have hin : ∃ U' J',J' ≠ []∧A6 5 (U'++[A6 4 J']) = .mk k 0 0 0 (y1 :: y2 :: r)∧pG s (a+1) [] [] ((U,J) :: B) = pG s (a+1+(p6 0 (.mk k 0 0 0 (y1 :: y2 :: r))).length) U' J' ((U,J) :: B):=by
    have hbl : ((U,J) :: B).length+bd0 (.mk k 0 0 0 (y1 :: y2 :: r))≤30:=by rw[List.length_cons];omega
    rcases hk with rfl | rfl
    ·have et0 : p6 0 (.mk 4 0 0 0 (y1 :: y2 :: r)) = (y6 4 (y1 :: y2 :: r)).flatten:=by
      rw[p6,if_neg (by decide),if_neg (by decide),if_neg (by decide),if_pos (.inl rfl),if_neg (by decide),aF1]
      rfl
     rw[et0] at g2 ⊢
     rw[bd0,if_neg (by decide)] at hbl
     exact ⟨[],y1 :: y2 :: r,by simp,rfl,bp2 hp (.inl rfl) g2 hbl⟩
    ·have et0 : p6 0 (.mk 5 0 0 0 (y1 :: y2 :: r)) = Lib.join (y6 5 (y1 :: y2 :: r)) [124]:=by
      rw[p6,if_neg (by decide),if_neg (by decide),if_neg (by decide),if_pos (.inr rfl),if_pos rfl]
      rfl
     rw[et0] at g2 ⊢
     rw[bd0,if_pos rfl] at hbl
     obtain ⟨U',J',h1,h2,h3⟩:=aL5 hx hp hpp (by simp) (U:=[]) g2 hbl
     exact ⟨U',J',h1,by rw[h2];rfl,h3⟩
   obtain ⟨U',J',h1,h2,h3⟩:=hin
   rw[cA7 h (by omega),h3,cg5 g3 h1,h2,List.length_cons,List.length_append]
   congr 1
   simp
   omega
  ·have hxp:=hp x (by simp)
   have ht : ∃ c : UInt8,(c = 42 ∨ c = 43 ∨ c = 63)∧G5 (c.toNat : Nat) = k∧p6 w (.mk k 0 0 0 [x]) = p6 k x++[c]:=by
    rcases hk with rfl | rfl | rfl
    ·refine ⟨42,.inl rfl,rfl,?_⟩
     rw[p6,if_neg (by decide),if_neg (by decide),if_neg (by decide),if_neg (by decide),y6];rfl
    ·refine ⟨43,.inr (.inl rfl),rfl,?_⟩
     rw[p6,if_neg (by decide),if_neg (by decide),if_neg (by decide),if_neg (by decide),y6];rfl
    ·refine ⟨63,.inr (.inr rfl),rfl,?_⟩
     rw[p6,if_neg (by decide),if_neg (by decide),if_neg (by decide),if_neg (by decide),y6];rfl
   obtain ⟨c,hc,hcn,ht⟩:=ht
   rw[ht] at h ⊢
   rw[bd,if_neg (by omega),if_neg (by omega),bds,bds] at hb
   obtain ⟨g1,g2⟩:=h.app
   rw[hxp k (.inr (by omega)) s a U J B g1 (by omega),cA8 g2 hc,hcn,List.length_append]
   congr 1
   show _ = a+((_+1 : Nat) : Int)
   omega
  ·have hxp:=hp x (by simp)
   have ht : p6 w (.mk 9 0 lo hi [x]) = p6 9 x++[123,dig lo.toNat,44,dig hi.toNat,125]:=by
    rw[p6,if_neg (by decide),if_neg (by decide),if_neg (by decide),if_neg (by decide),y6];rfl
   rw[ht] at h ⊢
   rw[bd,if_neg (by decide),if_neg (by decide),bds,bds] at hb
   obtain ⟨g1,g2⟩:=h.app
   rw[hxp 9 (.inr (by omega)) s a U J B g1 (by omega),cg6 g2 (by omega) (by omega),List.length_append,Int.toNat_of_nonneg (by omega),Int.toNat_of_nonneg (by omega)]
   congr 1
   show _ = a+((_+5 : Nat) : Int)
   omega
theorem aP7 {n : Nd} (h : A4 n = true) : as1 n := aF2 _ n (Nat.lt_succ_self _) h
theorem bz0 {n : Nd} (h : A4 n = true) (hb : bd0 n≤30) (hl : (p6 0 n).length≤200) : v7 (p6 0 n) = (n,0,0) := by
 rw[aX9,if_neg (by omega)]
 obtain ⟨U,J,h1,h2,h3⟩:=by9 h (aP7 h) (fun k s lo hi l e=>by
  rw[e] at h
  refine ⟨fun y hy=>aP7 ((A8 h).1 y hy),fun y hy k' s' lo' hi' l' e' z hz=>?_⟩
  have:=(A8 h).1 y hy
  rw[e'] at this
  exact aP7 ((A8 this).1 z hz)) (B:=[]) (TAt.all (p6 0 n)) (by simpa using hb)
 rw[h3,X9,if_pos (by omega),if_neg (by simp[h1]),h2]
set_option maxRecDepth 20000
theorem bh2 {t : List UInt8} {l : List (List UInt8)} (h : t ∈ l) (sep : List UInt8) : t.length≤(Lib.join l sep).length := by
 induction l with
 | nil=>cases h
 | cons u l ih =>
  cases l with
  | nil=>rw[List.mem_singleton.1 h,R8];omega
  | cons v l =>
   rw[G6,List.length_append,List.length_append]
   rcases List.mem_cons.1 h with rfl | h
   ·omega
   ·have:=ih h;omega
theorem bp3 {k s lo hi w : Int} {l : List Nd} {x : Nd} (hr : A4 (.mk k s lo hi l) = true) (hx : x ∈ l) : (p6 k x).length≤(p6 w (.mk k s lo hi l)).length := by
 obtain ⟨_,hc⟩:=A8 hr
 rcases hc with ⟨rfl,rfl,_⟩ | ⟨_,rfl,_⟩ | ⟨hk,_⟩ | ⟨hk,_,_,_,y,rfl⟩ | ⟨rfl,_,_,_,_,y,rfl⟩
 ·cases hx
 ·cases hx
 ·rw[p6,if_neg (by omega),if_neg (by omega),if_neg (by omega),if_pos hk]
  have h1 : p6 k x ∈ y6 k l:=by rw[aL4];exact List.mem_map.2 ⟨x,hx,rfl⟩
  have h2:=bh2 h1 (if k = 5 then [124] else [])
  unfold cr5
  split
  ·simp;omega
  ·exact h2
 ·rw[p6,if_neg (by omega),if_neg (by omega),if_neg (by omega),if_neg (by omega),y6]
  rw[List.mem_singleton.1 hx]
  simp
 ·rw[p6,if_neg (by omega),if_neg (by omega),if_neg (by omega),if_neg (by omega),y6]
  rw[List.mem_singleton.1 hx]
  simp
def cl0 (args : List AV) (r : AV) : Prop := ∃ n,A4 n = true∧aq3 n = true∧(p6 0 n).length≤100000000∧args = [j5 n]∧r = .str (p6 0 n)
theorem cl1 : N2 cl0 := by
 rintro args r r' ⟨n,_,_,_,rfl,rfl⟩ ⟨n',_,_,_,h,rfl⟩
 simp only[List.cons.injEq,AV.agg.injEq,and_true] at h
 rw[K0 h]
set_option maxRecDepth 20000
theorem cl2 : ((List.range 31).map fun q=>(X0 E4 1000).1 20 [.int .i64 ((q+1 : Nat) : Int)]) = (List.range 31).map fun q=>some (.str (bB0 (q+1))) := by kernel_rfl
theorem cG2 {s : Nat} (h0 : 1≤s) (h1 : s≤31) : (X0 E4 1000).1 20 [.int .i64 (s : Int)] = some (.str (bB0 s)) := by
 have:=cq9 cl2 (q:=s - 1) (by omega)
 rwa [show s - 1+1 = s by omega] at this
theorem aZ3 (t : List UInt8) (sep : List UInt8) : ∀ l : List (List UInt8),Lib.join (l++[t]) sep = if l = [] then t else Lib.join l sep++sep++t
 | []=>by rw[List.nil_append,R8,if_pos rfl]
 | [u]=>by rw[if_neg (by simp),List.singleton_append,G6,R8,R8];simp
 | u :: v :: l=>by
  have ih:=aZ3 t sep (v :: l)
  rw[if_neg (by simp)] at ih ⊢
  have e : u :: v :: l++[t] = u :: v :: (l++[t]):=rfl
  rw[e,G6,← List.cons_append,ih,G6]
  simp
theorem bp4 {k : Int} (hk : k ≠ 0) (x : Nd) : p6 k x = cr5 (decide (ab6 x = 5 ∨ (ab6 x = 4∧k ≠ 5))) (p6 0 x) := by
 obtain ⟨q,s,lo,hi,l⟩:=x
 have hq : ab6 (.mk q s lo hi l) = q:=rfl
 rw[hq,p6,p6]
 by_cases h1 : q = 1
 ·subst h1;rw[if_pos rfl,if_pos rfl,decide_eq_false (by omega)];rfl
 by_cases h2 : q = 2
 ·subst h2;rw[if_neg h1,if_neg h1,if_pos rfl,if_pos rfl,decide_eq_false (by omega)];rfl
 by_cases h3 : q = 3
 ·subst h3;rw[if_neg h1,if_neg h1,if_neg h2,if_neg h2,if_pos rfl,if_pos rfl,decide_eq_false (by omega)];rfl
 rw[if_neg h1,if_neg h1,if_neg h2,if_neg h2,if_neg h3,if_neg h3]
 by_cases h4 : q = 4 ∨ q = 5
 ·rw[if_pos h4,if_pos h4]
  have e0 : decide ((0 : Int) ≠ 0∧(q = 5 ∨ (0 : Int) ≠ 5)) = false:=rfl
  rw[e0]
  have e1 : decide (k ≠ 0∧(q = 5 ∨ k ≠ 5)) = decide (q = 5 ∨ (q = 4∧k ≠ 5)):=by rw[Bool.eq_iff_iff];simp only[decide_eq_true_eq];omega
  rw[e1]
  rfl
 ·rw[if_neg h4,if_neg h4,decide_eq_false (by omega)]
  rfl
theorem dg7 (X) : d9 (EX md0 X) (fun _=>none) 2 Tryz.f21 = true := by kernel_rfl
def dE1 (x : Nd) (args : List AV) (r : AV) : Prop := args = [j5 x]∧r = .str (p6 0 x)
theorem cG3 (x) : N2 (dE1 x) := by
 rintro args r r' ⟨_,rfl⟩ ⟨_,rfl⟩
 rfl
theorem aZ4 (k : Int) (x : Nd) (hk : k ≠ 0) (hl : (p6 0 x).length≤100000000) (h : Ok Tryz.prog 7 [j5 x] (.str (p6 0 x))) : Ok Tryz.prog 21 [.int .i64 k,j5 x] (.str (p6 k x)) := by
 refine m7 (E:=EX md0 (t7 [(7,D9 (dE1 x))])) (cr:=noR) (l8 (t6 _) (n8 (fun args r h'=>by obtain ⟨rfl,rfl⟩:=h';exact h))) (q7 _) mixed (k:=10) Tryz.func21 (dg7 _) rfl ?_
 have hX : t7 [(7,D9 (dE1 x))] 7 [j5 x] = some (.str (p6 0 x)):=o8 (cG3 x) ⟨rfl,rfl⟩
 rw[bp4 hk]
 generalize p6 0 x = t at *
 obtain ⟨q,s,lo,hi,l⟩:=x
 have hq : ab6 (.mk q s lo hi l) = q:=rfl
 rw[hq]
 simp only[j5,n7] at hX
 simp only[Tryz.f21,Option.getD_some,j5,n7]
 by_cases h5 : q = 5
 ·subst h5
  rw[decide_eq_true (.inl rfl)]
  simp (disch:=omega) only[go_sem,hX]
  simp[cr5]
 ·by_cases h4 : q = 4
  ·subst h4
   by_cases hk5 : k = 5
   ·subst hk5
    rw[decide_eq_false (by omega)]
    simp (disch:=omega) only[go_sem,hX]
    rfl
   ·rw[decide_eq_true (by omega)]
    simp (disch:=omega) only[go_sem,hX,hk5]
    simp[cr5]
  ·rw[decide_eq_false (by omega)]
   simp (disch:=omega) only[go_sem,hX,h5,h4]
   rfl
theorem bS0 (X) : d9 (EX md0 X) (fun _=>none) 1 Tryz.f7 = true := by kernel_rfl
def cG4 (t : List UInt8) : s8 := fun u a o nx=>(u = .normal ∨ u = .ret)∧wO (s7 Tryz.prog a ⟨o,nx⟩ Tryz.f7.results.toList) (fun vs=>view o p9 (ac3 vs) = .str t)
theorem aL6 (k s : Int) (h : (k = 1∧1≤s∧s≤31) ∨ (k = 2∧s = 0) ∨ (k = 3∧s = 0)) (X : FuncId→List AV→Option AV) (hset : ∀ s : Nat,1≤s→s≤31→X 20 [.int .i64 s] = some (.str (bB0 s))) :
  WP (EX md0 X) noR 1002 (fun _=>none) (Tryz.f7.body.getD .skip) (A2 [j5 (.mk k s 0 0 [])]) (fun _=>none) 0 (cG4 (p6 0 (.mk k s 0 0 []))):=by
 simp only[Tryz.f7,Option.getD_some,j5,n7]
 rcases h with ⟨rfl,h0,h1⟩ | ⟨rfl,rfl⟩ | ⟨rfl,rfl⟩
 ·have h2:=hset s.toNat (by omega) (by omega)
  rw[Int.toNat_of_nonneg (by omega)] at h2
  simp (disch:=omega) only[go_sem,h2]
  refine ⟨.inr rfl,?_⟩
  simp only[Tryz.f7]
  simp (disch:=omega) only[go_sem]
  rw[p6,if_pos rfl]
 ·simp (disch:=omega) only[go_sem]
  refine ⟨.inr rfl,?_⟩
  simp only[Tryz.f7]
  simp (disch:=omega) only[go_sem]
  rw[p6,if_neg (by decide),if_pos rfl]
 ·simp (disch:=omega) only[go_sem]
  refine ⟨.inr rfl,?_⟩
  simp only[Tryz.f7]
  simp (disch:=omega) only[go_sem]
  rw[p6,if_neg (by decide),if_neg (by decide),if_pos rfl]
def bS1 (k : Int) : List UInt8 := if k = 5 then [124] else []
theorem aZ5 (l : List (List UInt8)) (sep : List UInt8) (i : Nat) : (Lib.join (l.take i) sep).length≤(Lib.join l sep).length := by
 rcases Nat.lt_or_ge i l.length with h | h
 ·have : ∀ (a b : List (List UInt8)),(Lib.join a sep).length≤(Lib.join (a++b) sep).length:=by
   intro a b
   induction a with
   | nil=>simp[Lib.join,List.intercalate]
   | cons x a ih =>
    cases a with
    | nil =>
     cases b with
     | nil=>exact Nat.le_refl _
     | cons y b=>rw[List.singleton_append,G6,R8,List.length_append];omega
    | cons y a =>
     have e : x :: y :: a++b = x :: y :: (a++b):=rfl
     rw[e,G6,G6,List.length_append,List.length_append,List.length_append,List.length_append]
     rw[List.cons_append] at ih
     omega
  have h2:=this (l.take i) (l.drop i)
  rwa [List.take_append_drop] at h2
 ·rw[List.take_of_length_le h];omega
theorem S8 (k lo hi : Int) (l : List Nd) (hk : 4≤k) (hl : l.length≤1000) (hlen : (Lib.join (y6 k l) (bS1 k)).length≤100000000) (X : FuncId→List AV→Option AV) (hch : ∀ i,i < l.length→X 21 [.int .i64 k,j5 (l.getD i default)] = some (.str (p6 k (l.getD i default)))) {Q : s8} {a : v6} {o : Ob} {nx : Nat} (hnx : 1≤nx)
  (a1 : a 1 = .ptr (0,1) (0,1) 0) (a3 : a 3 = .str []) (a4 : a 4 = .int .i64 0) (ho : o (0,1) = some (.row ⟨28,1,(0,1),false,true,[.int .i64 k,.int .i64 0,.int .i64 lo,.int .i64 hi,slN l]⟩))
  (hQ : ∀ a o nx,1≤nx→a 1 = .ptr (0,1) (0,1) 0→a 3 = .str (Lib.join (y6 k l) (bS1 k))→o (0,1) = some (.row ⟨28,1,(0,1),false,true,[.int .i64 k,.int .i64 0,.int .i64 lo,.int .i64 hi,slN l]⟩)→Q .normal a o nx) :
  WP (EX md0 X) noR 1002 (fun _=>none) (u9 [1,1,1,0,1,0] (Tryz.f7.body.getD .skip)) a o nx (I8 1 Q):=by
 simp only[Tryz.f7,Option.getD_some,u9]
 rw[aL4] at hlen hQ
 refine o9 (fun m a o nx=>∃ i : Nat,i≤l.length∧m = l.length - i∧1≤nx∧a 1 = .ptr (0,1) (0,1) 0∧a 3 = .str (Lib.join ((l.take i).map (p6 k)) (bS1 k))∧a 4 = .int .i64 i∧o (0,1) = some (.row ⟨28,1,(0,1),false,true,[.int .i64 k,.int .i64 0,.int .i64 lo,.int .i64 hi,slN l]⟩)) l.length (by omega) ⟨0,by omega,by omega,by omega,a1,a3,a4,ho⟩ ?_
 clear a1 a3 a4 ho hnx
 rintro m a o nx ⟨i,hi,rfl,hnx,a1,a3,a4,ho⟩
 by_cases hlt : i < l.length
 ·have hat:=ai9 hlt
  have hci:=hch i hlt
  have htk:=q8 hlt default
  have hle:=aZ5 (l.map (p6 k)) (bS1 k) (i+1)
  rw[← List.map_take,htk,List.map_append] at hle
  have hsn:=aZ3 (p6 k (l.getD i default)) (bS1 k) ((l.take i).map (p6 k))
  have hnil : (l.take i).map (p6 k) = [] ↔ i = 0:=by
   constructor
   ·intro e
    have:=congrArg List.length e
    rw[List.length_map,List.length_take] at this
    simp at this
    rcases this with h | h
    ·exact h
    ·rw[h] at hlt;simp at hlt
   ·rintro rfl;rfl
  have hle' : (Lib.join ((l.take i).map (p6 k)++[p6 k (l.getD i default)]) (bS1 k)).length≤100000000:=Nat.le_trans hle hlen
  simp only[j5] at hci
  have hres : (l.take (i+1)).map (p6 k) = (l.take i).map (p6 k)++[p6 k (l.getD i default)]:=by rw[htk,List.map_append];rfl
  clear htk hle
  generalize l.getD i default = x at *
  by_cases h0 : i = 0
  ·rw[if_pos (hnil.2 h0)] at hsn
   rw[hsn] at hle'
   rw[hnil.2 h0] at a3
   have e0 : Lib.join [] (bS1 k) = []:=rfl
   rw[e0] at a3
   simp (disch:=omega) only[go_sem,a1,a3,a4,ho,hat,hci]
   exact ⟨_,by omega,i+1,by omega,rfl,by rw[hres,hsn],rfl⟩
  ·rw[if_neg (fun e=>h0 (hnil.1 e))] at hsn
   rw[hsn,List.length_append,List.length_append] at hle'
   by_cases h5 : k = 5
   ·subst h5
    have hs5 : bS1 5 = [124]:=rfl
    rw[hs5] at hsn hle' a3
    simp only[List.length_singleton] at hle'
    simp (disch:=omega) only[go_sem,a1,a3,a4,ho,hat,hci]
    exact ⟨_,by omega,i+1,by omega,rfl,by rw[hres,hs5,hsn],rfl⟩
   ·have hs5 : bS1 k = []:=if_neg h5
    rw[hs5] at hsn hle' a3
    simp (disch:=omega) only[go_sem,a1,a3,a4,ho,hat,hci,h5]
    exact ⟨_,by omega,i+1,by omega,rfl,by rw[hres,hs5,hsn,List.append_nil],rfl⟩
 ·have hie : i = l.length:=by omega
  rw[hie,List.take_length] at a3
  simp (disch:=omega) only[go_sem,a1,a3,a4,ho]
  exact hQ _ _ _ (by omega) (by simp (disch:=omega) only[go_sem,a1]) (by simp (disch:=omega) only[go_sem,a3]) ho
theorem bz1 (k : Int) (l : List Nd) (hk : k = 4 ∨ k = 5) (hl : l.length≤1000) (hlen : (p6 0 (.mk k 0 0 0 l)).length≤100000000) (X : FuncId→List AV→Option AV) (hch : ∀ i,i < l.length→X 21 [.int .i64 k,j5 (l.getD i default)] = some (.str (p6 k (l.getD i default)))) :
  WP (EX md0 X) noR 1002 (fun _=>none) (Tryz.f7.body.getD .skip) (A2 [j5 (.mk k 0 0 0 l)]) (fun _=>none) 0 (cG4 (p6 0 (.mk k 0 0 0 l))):=by
 have ht : p6 0 (.mk k 0 0 0 l) = Lib.join (y6 k l) (bS1 k):=by
  rw[p6,if_neg (by omega),if_neg (by omega),if_neg (by omega),if_pos hk]
  rfl
 rw[ht] at hlen ⊢
 simp only[Tryz.f7,Option.getD_some,j5,n7]
 rcases hk with rfl | rfl
 ·simp (disch:=omega) only[go_sem]
  refine S8 4 0 0 l (by omega) hl hlen X hch (by omega) rfl rfl rfl rfl (fun a o nx hnx a1 a3 ho=>?_)
  simp (disch:=omega) only[go_sem,a1,a3,ho]
  refine ⟨.inr rfl,?_⟩
  simp only[Tryz.f7]
  simp (disch:=omega) only[go_sem]
 ·simp (disch:=omega) only[go_sem]
  refine S8 5 0 0 l (by omega) hl hlen X hch (by omega) rfl rfl rfl rfl (fun a o nx hnx a1 a3 ho=>?_)
  simp (disch:=omega) only[go_sem,a1,a3,ho]
  refine ⟨.inr rfl,?_⟩
  simp only[Tryz.f7]
  simp (disch:=omega) only[go_sem]
theorem bz2 (bs : List UInt8) : ac1 (bs.map fun b=>.int .u8 b.toNat) = some bs := by
 induction bs with
 | nil=>rfl
 | cons b bs ih =>
  rw[List.map_cons,ac1,ih]
  simp[b.toNat_lt]
theorem bp5 {tg k g : Tag} {o : Ob} {nx n : Nat} {ro pl : Bool} {cs : List AV} (bs : List UInt8) (ho : o k = some (.row ⟨5,1,g,ro,pl,cs⟩)) (hc : cs = bs.map fun b=>.int .u8 b.toNat) (hn : n = bs.length) : m5 Tryz.prog tg 31 9 (.ref k g 0 n) ⟨o,nx⟩ = some (.str bs,⟨o,nx⟩) := by
 refine al1 (e:=5) (n:=n) (cs:=cs) (by kernel_rfl) (by kernel_rfl) (by kernel_rfl) ?_ (by rw[hc,hn,List.length_map]) (by rw[hc];exact bz2 bs)
 have hl : cs.length = n:=by rw[hc,hn,List.length_map]
 simp only[E2,ah3,ho,if_true,Option.some.injEq,Prod.mk.injEq,true_and,List.drop_zero,Nat.mul_one]
 exact j7 hl
theorem bp6 {d : Int} (h0 : 0≤d) (h1 : d≤9) : IntKind.u8.wrap (48+d) = ((dig d.toNat).toNat : Int) := by
 have : ∀ x : Fin 10,IntKind.u8.wrap (48+(x.1 : Int)) = ((dig x.1).toNat : Int):=by decide +kernel
 have:=this ⟨d.toNat,by omega⟩
 rwa [show ((d.toNat : Nat) : Int) = d by omega] at this
theorem aL7 (k lo hi : Int) (x : Nd) (h : ((k = 6 ∨ k = 7 ∨ k = 8)∧lo = 0∧hi = 0) ∨ (k = 9∧0≤lo∧lo≤hi∧hi≤9)) (hlen : (p6 0 (.mk k 0 lo hi [x])).length≤100000000) (X : FuncId→List AV→Option AV) (hch : ∀ i,i < [x].length→X 21 [.int .i64 k,j5 ([x].getD i default)] = some (.str (p6 k ([x].getD i default)))) :
  WP (EX md0 X) noR 1002 (fun _=>none) (Tryz.f7.body.getD .skip) (A2 [j5 (.mk k 0 lo hi [x])]) (fun _=>none) 0 (cG4 (p6 0 (.mk k 0 lo hi [x]))):=by
 have ht : p6 0 (.mk k 0 lo hi [x]) = p6 k x++by8 k lo hi:=by
  rw[p6,if_neg (by omega),if_neg (by omega),if_neg (by omega),if_neg (by omega),y6];rfl
 rw[ht] at hlen ⊢
 rw[List.length_append] at hlen
 have hj : Lib.join (y6 k [x]) (bS1 k) = p6 k x:=by rw[y6,y6,R8]
 simp only[Tryz.f7,Option.getD_some,j5,n7]
 rcases h with ⟨rfl | rfl | rfl,rfl,rfl⟩ | ⟨rfl,h0,h1,h2⟩
 ·simp (disch:=omega) only[go_sem]
  refine S8 6 0 0 [x] (by omega) (by simp) (by rw[hj];omega) X hch (by omega) rfl rfl rfl rfl (fun a o nx hnx a1 a3 ho=>?_)
  rw[hj] at a3
  simp (disch:=omega) only[go_sem,a1,a3,ho]
  refine ⟨.inr rfl,?_⟩
  simp only[Tryz.f7]
  simp (disch:=omega) only[go_sem]
  rfl
 ·simp (disch:=omega) only[go_sem]
  refine S8 7 0 0 [x] (by omega) (by simp) (by rw[hj];omega) X hch (by omega) rfl rfl rfl rfl (fun a o nx hnx a1 a3 ho=>?_)
  rw[hj] at a3
  simp (disch:=omega) only[go_sem,a1,a3,ho]
  refine ⟨.inr rfl,?_⟩
  simp only[Tryz.f7]
  simp (disch:=omega) only[go_sem]
  rfl
 ·simp (disch:=omega) only[go_sem]
  refine S8 8 0 0 [x] (by omega) (by simp) (by rw[hj];omega) X hch (by omega) rfl rfl rfl rfl (fun a o nx hnx a1 a3 ho=>?_)
  rw[hj] at a3
  simp (disch:=omega) only[go_sem,a1,a3,ho]
  refine ⟨.inr rfl,?_⟩
  simp only[Tryz.f7]
  simp (disch:=omega) only[go_sem]
  rfl
 ·have c1:=bp6 h0 (by omega)
  have c2:=bp6 (d:=hi) (by omega) h2
  simp (disch:=omega) only[go_sem]
  refine S8 9 lo hi [x] (by omega) (by simp) (by rw[hj];omega) X hch (by omega) rfl rfl rfl rfl (fun a o nx hnx a1 a3 ho=>?_)
  rw[hj] at a3
  have hcv : ∀ (tg k g : Tag) (o : Ob) (nx : Nat),o k = some (.row ⟨5,1,g,false,true,[.int .u8 123,.int .u8 (dig lo.toNat).toNat,.int .u8 44,.int .u8 (dig hi.toNat).toNat,.int .u8 125]⟩)→m5 Tryz.prog tg 31 9 (.ref k g 0 5) ⟨o,nx⟩ = some (.str [123,dig lo.toNat,44,dig hi.toNat,125],⟨o,nx⟩):=fun tg k g o nx h=>bp5 _ h rfl rfl
  simp (disch:=omega) only[go_sem,a1,a3,ho,c1,c2]
  rw[hcv _ _ _ _ _ (d8 _ _ _)]
  simp (disch:=omega) only[go_sem]
  refine ⟨.inr rfl,?_⟩
  simp only[Tryz.f7]
  simp (disch:=omega) only[go_sem]
  rfl
def RBr (k : Int) (l : List Nd) (args : List AV) (r : AV) : Prop := ∃ i,i < l.length∧args = [.int .i64 k,j5 (l.getD i default)]∧r = .str (p6 k (l.getD i default))
theorem dg8 (k l) : N2 (RBr k l) := by
 rintro args r r' ⟨i,_,rfl,rfl⟩ ⟨j,_,h,rfl⟩
 simp only[List.cons.injEq,AV.agg.injEq,and_true,true_and] at h
 rw[K0 h]
noncomputable def XDt (k : Int) (l : List Nd) : FuncId→List AV→Option AV := t7 [(21,D9 (RBr k l)),(20,(X0 E4 1000).1 20)]
theorem cl3 (k : Int) (x : Nd) (hk : k ≠ 0) : (p6 0 x).length≤(p6 k x).length := by
 rw[bp4 hk,cr5]
 split
 ·simp;omega
 ·omega
theorem bp7 : ∀ (n : Nd),A4 n = true→aq3 n = true→(p6 0 n).length≤100000000→Ok Tryz.prog 7 [j5 n] (.str (p6 0 n))
 | .mk k s lo hi l,hr,hw,hlen=>by
  obtain ⟨hx,hc⟩:=A8 hr
  rw[aq3,Bool.and_eq_true,decide_eq_true_eq] at hw
  have hk0 : k ≠ 0:=by omega
  have hok : s6 Tryz.prog (XDt k l):=l8 (l8 (t6 _) (fun args r h=>aN2 (E:=E4) bG0 mixed h)) (n8 (fun args r h'=>by
   obtain ⟨i,hil,rfl,rfl⟩:=h'
   have hm : l.getD i default ∈ l:=by
    rw[List.getD_eq_getElem?_getD,List.getElem?_eq_getElem hil]
    exact List.getElem_mem hil
   have:=aK0 hil k s lo hi
   have hle : (p6 0 (l.getD i default)).length≤100000000:=Nat.le_trans (cl3 k _ hk0) (Nat.le_trans (bp3 hr hm) hlen)
   exact aZ4 k _ hk0 hle (bp7 (l.getD i default) (hx _ hm) (bG5 hw.2 hil) hle)))
  have hset : ∀ s : Nat,1≤s→s≤31→XDt k l 20 [.int .i64 s] = some (.str (bB0 s)):=fun s h0 h1=>cG2 h0 h1
  have hch : ∀ i,i < l.length→XDt k l 21 [.int .i64 k,j5 (l.getD i default)] = some (.str (p6 k (l.getD i default))):=fun i h=>o8 (dg8 k l) ⟨i,h,rfl,rfl⟩
  refine m7 (E:=EX md0 (XDt k l)) (cr:=noR) hok (q7 _) mixed (k:=1002) Tryz.func7 (bS0 _) rfl ?_
  rcases hc with ⟨rfl,rfl,rfl,rfl,h0,h1⟩ | ⟨hk,rfl,rfl,rfl,rfl⟩ | ⟨hk,rfl,rfl,rfl,y1,y2,r,rfl⟩ | ⟨hk,rfl,rfl,rfl,x,rfl⟩ | ⟨rfl,rfl,h0,h1,h2,x,rfl⟩
  ·exact aL6 1 s (.inl ⟨rfl,h0,h1⟩) _ hset
  ·exact aL6 k 0 (by omega) _ hset
  ·exact bz1 k _ hk hw.1 hlen _ hch
  ·exact aL7 k 0 0 x (.inl ⟨hk,rfl,rfl⟩) hlen _ hch
  ·exact aL7 9 lo hi x (.inr ⟨rfl,h0,h1,h2⟩) hlen _ hch
termination_by n=>SizeOf.sizeOf n
decreasing_by
 exact this
theorem bS2 (args r) (h : cl0 args r) : Ok Tryz.prog 7 args r := by
 obtain ⟨n,h1,h2,h3,rfl,rfl⟩:=h
 exact bp7 n h1 h2 h3
end Go.Proofs.YtpmjpogcaglphaaGreatDoor.A
