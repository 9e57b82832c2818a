/- What is read of any text may be built. -/
import Derived.Test.YtpmjpogcaglphaaGreatDoorMLMCompiles34
import Derived.Test.YtpmjpogcaglphaaGreatDoorMLMCompiles15
set_option linter.unusedVariables false
set_option linter.unusedSimpArgs false
set_option linter.unnecessarySimpa false
namespace Go.Proofs.YtpmjpogcaglphaaGreatDoor.A
open Go
set_option maxRecDepth 20000
mutual
theorem ba0 : ∀ x : Nd,A4 x = true→szN x≤1000→okQ x = true∧okS x = true∧hN x≤szN x
 | .mk k s lo hi l,hr,hs=>by
  obtain ⟨hx,hc⟩:=A8 hr
  rw[szN] at hs
  obtain ⟨h1,h2,h3,h4⟩:=aL9 l hx (by omega)
  rw[okQ,okS,hN,szN,h1,h2,Bool.true_and,Bool.true_and]
  refine ⟨?_,?_,by omega⟩
  ·rcases hc with ⟨hk,e,_⟩ | ⟨hk,e,_⟩ | ⟨hk,_,_,_,x,y,r,e⟩ | ⟨hk,_,_,_,x,e⟩ | ⟨hk,_,b0,b1,b2,x,e⟩
   ·rw[if_neg (by omega),if_neg (by omega),if_neg (by omega),decide_eq_true_eq,e];rfl
   ·rw[if_neg (by omega),if_neg (by omega),if_neg (by omega),decide_eq_true_eq,e];rfl
   ·rw[if_pos (by omega),decide_eq_true_eq]
    refine ⟨?_,by omega⟩
    rw[e,List.length_cons]
    omega
   ·rw[if_neg (by omega),if_pos (by omega),decide_eq_true_eq,e];rfl
   ·rw[if_neg (by omega),if_neg (by omega),if_pos hk,decide_eq_true_eq,e,List.length_singleton]
    omega
  ·rcases hc with ⟨hk,_,_,_,b1,b2⟩ | ⟨hk,_⟩ | ⟨hk,_⟩ | ⟨hk,_⟩ | ⟨hk,_⟩
   ·rw[if_pos hk,decide_eq_true_eq];exact ⟨b1,b2⟩
   ·rw[if_neg (by omega)]
   ·rw[if_neg (by omega)]
   ·rw[if_neg (by omega)]
   ·rw[if_neg (by omega)]
theorem aL9 : ∀ l : List Nd,(∀ x ∈ l,A4 x = true)→Z8 l≤1000→cd6 l = true∧bW8 l = true∧hNs l≤Z8 l∧l.length≤Z8 l
 | [],_,_=>by rw[cd6,bW8,hNs,Z8];exact ⟨rfl,rfl,by omega,by simp⟩
 | x :: l,hx,hs=>by
  rw[Z8] at hs
  obtain ⟨h1,h2,h3⟩:=ba0 x (hx x List.mem_cons_self) (by omega)
  obtain ⟨g1,g2,g3,g4⟩:=aL9 l (fun y hy=>hx y (List.mem_cons_of_mem _ hy)) (by omega)
  have:=cG5 x
  rw[cd6,bW8,hNs,Z8,h1,h2,g1,g2,List.length_cons]
  exact ⟨rfl,rfl,by omega,by omega⟩
end
theorem ba1 (s : List UInt8) (he : (v7 s).2.2 = 0) : okQ (v7 s).1 = true∧okS (v7 s).1 = true∧hN (v7 s).1≤1000 := by
 obtain ⟨h1,_,h3⟩:=(bz3 s).1 he
 have hl : s.length≤200:=by
  by_cases h : s.length≤200
  ·exact h
  ·rw[v7,if_pos (by omega)] at he
   exact absurd he (by decide)
 obtain ⟨g1,g2,g3⟩:=ba0 _ h1 (by omega)
 exact ⟨g1,g2,by omega⟩
set_option maxRecDepth 20000
mutual
theorem ba2 : ∀ x : Nd,A4 x = true→aG6 x = true→okN x = true∧okS x = true∧hN x = dN x
 | .mk k s lo hi l,hr,hs=>by
  obtain ⟨hx,hc⟩:=A8 hr
  rw[aG6,Bool.and_eq_true,decide_eq_true_eq] at hs
  obtain ⟨h1,h2,h3⟩:=aM0 l hx hs.2
  rw[okN,okS,hN,dN,h1,h2,h3,Bool.true_and,Bool.true_and]
  refine ⟨?_,?_,rfl⟩
  ·rcases hc with ⟨hk,_⟩ | ⟨hk,_⟩ | ⟨hk,_,_,_,x,y,r,e⟩ | ⟨hk,_,_,_,x,e⟩ | ⟨hk,_,b0,b1,b2,x,e⟩
   ·rw[if_neg (by omega),if_neg (by omega)]
   ·rw[if_neg (by omega),if_neg (by omega)]
   ·rw[if_pos (by omega),decide_eq_true_eq]
    rw[e,List.length_cons] at hs ⊢
    omega
   ·rw[if_pos (by omega),decide_eq_true_eq]
    rw[e,List.length_singleton]
    omega
   ·rw[if_neg (by omega),if_pos hk,decide_eq_true_eq]
    rw[e,List.length_singleton]
    omega
  ·rcases hc with ⟨hk,_,_,_,b1,b2⟩ | ⟨hk,_⟩ | ⟨hk,_⟩ | ⟨hk,_⟩ | ⟨hk,_⟩
   ·rw[if_pos hk,decide_eq_true_eq];exact ⟨b1,b2⟩
   ·rw[if_neg (by omega)]
   ·rw[if_neg (by omega)]
   ·rw[if_neg (by omega)]
   ·rw[if_neg (by omega)]
theorem aM0 : ∀ l : List Nd,(∀ x ∈ l,A4 x = true)→ad8 l = true→ab8 l = true∧bW8 l = true∧hNs l = dNs l
 | [],_,_=>by rw[ab8,bW8,hNs,dNs];exact ⟨rfl,rfl,rfl⟩
 | x :: l,hx,hs=>by
  rw[ad8,Bool.and_eq_true] at hs
  obtain ⟨h1,h2,h3⟩:=ba2 x (hx x List.mem_cons_self) hs.1
  obtain ⟨g1,g2,g3⟩:=aM0 l (fun y hy=>hx y (List.mem_cons_of_mem _ hy)) hs.2
  rw[ab8,bW8,hNs,dNs,h1,h2,h3,g1,g2,g3]
  exact ⟨rfl,rfl,rfl⟩
end
end Go.Proofs.YtpmjpogcaglphaaGreatDoor.A
