/- Trees: raw expressions, nodes, their cells; the expression of a raw one. -/
import Derived.Test.YtpmjpogcaglphaaGreatDoorMLMCompiles7
set_option linter.unusedVariables false
set_option linter.unusedSimpArgs false
set_option linter.unnecessarySimpa false
namespace Go.Proofs.YtpmjpogcaglphaaGreatDoor.A
open Go
set_option maxRecDepth 20000
inductive Rw where
 | mk (k n : Int) (l : List Rw)
inductive Nd where
 | mk (kind set lo hi : Int) (l : List Nd)
instance : Inhabited Rw := ⟨.mk 0 0 []⟩
instance : Inhabited Nd := ⟨.mk 0 0 0 0 []⟩
mutual
def cRw : Rw→List AV
 | .mk k n l=>[.int .i64 k,.int .i64 n,.sl l.length (aV6 l)]
def aV6 : List Rw→List AV
 | []=>[]
 | r :: l=>cRw r++aV6 l
end
mutual
def cNd : Nd→List AV
 | .mk kind set lo hi l=>[.int .i64 kind,.int .i64 set,.int .i64 lo,.int .i64 hi,.sl l.length (G0 l)]
def G0 : List Nd→List AV
 | []=>[]
 | r :: l=>cNd r++G0 l
end
abbrev slR (l : List Rw) : AV := .sl l.length (aV6 l)
abbrev slN (l : List Nd) : AV := .sl l.length (G0 l)
@[go_sem] theorem ai0 (k n l) : cRw (.mk k n l) = [.int .i64 k, .int .i64 n, slR l] := by rw [cRw]
@[go_sem] theorem n7 (k s lo hi l) : cNd (.mk k s lo hi l) = [.int .i64 k, .int .i64 s, .int .i64 lo, .int .i64 hi, slN l] := by rw [cNd]
@[go_sem] theorem aw2 : aV6 [] = [] := by rw [aV6]
@[go_sem] theorem r8 : G0 [] = [] := by rw [G0]
theorem U5 (r l) : aV6 (r :: l) = cRw r++aV6 l := by rw[aV6]
theorem E9 (r l) : G0 (r :: l) = cNd r++G0 l := by rw[G0]
theorem O0 (r) : (cRw r).length = 3 := by obtain ⟨k,n,l⟩ := r;rw[ai0];rfl
theorem C4 (r) : (cNd r).length = 5 := by obtain ⟨k,s,lo,hi,l⟩ := r;rw[n7];rfl
@[go_sem] theorem dC2 (r) : (cRw r).length = 3 := O0 r
@[go_sem] theorem dC3 (r) : (cNd r).length = 5 := C4 r
@[go_sem] theorem cb3 (r) : (cRw r).take 3 = cRw r := j7 (O0 r)
@[go_sem] theorem cb4 (r) : (cNd r).take 5 = cNd r := j7 (C4 r)
theorem bG1 (r x) : (cRw r++x).take 3 = cRw r := by rw[List.take_append_of_le_length (by rw[O0];omega),cb3]
theorem aV7 (r x) : (cNd r++x).take 5 = cNd r := by rw[List.take_append_of_le_length (by rw[C4];omega),cb4]
attribute [go_sem] bG1 aV7
@[go_sem] theorem cq1 (r) : (cNd r).all w0 = true := by obtain ⟨k, s, lo, hi, m⟩ := r; rw [n7]; rfl
@[go_sem] theorem dT0 (r) : (cRw r).all w0 = true := by obtain ⟨k, n, m⟩ := r; rw [ai0]; rfl
@[go_sem] theorem aB6 (l) : (aV6 l).length = l.length * 3 := by
 induction l with
 | nil=>rw[aw2];rfl
 | cons r l ih=>rw[U5,List.length_append,O0,ih,List.length_cons];omega
@[go_sem] theorem y0 (l) : (G0 l).length = l.length * 5 := by
 induction l with
 | nil=>rw[r8];rfl
 | cons r l ih=>rw[E9,List.length_append,C4,ih,List.length_cons];omega
theorem W1 (x y) : G0 (x++y) = G0 x++G0 y := by
 induction x with
 | nil=>rw[r8];rfl
 | cons r l ih=>rw[List.cons_append,E9,ih,E9,List.append_assoc]
theorem A5 (r) : G0 [r] = cNd r := by rw[E9,r8,List.append_nil]
@[go_sem] theorem dC4 (l) : (G0 l).all w0 = true := by
 induction l with
 | nil=>rw[r8];rfl
 | cons r l ih=>obtain ⟨k,s,lo,hi,m⟩:=r;rw[E9,n7,List.all_append,ih];rfl
@[go_sem] theorem al9 (o d r) : (cNd r).map (view o d) = cNd r := by
 obtain ⟨k,s,lo,hi,m⟩:=r
 rw[n7]
 simp only[List.map_cons,List.map_nil,al5,be1]
@[go_sem] theorem Z2 (o d l) : (G0 l).map (view o d) = G0 l := by
 induction l with
 | nil=>rw[r8];rfl
 | cons r l ih=>rw[E9,List.map_append,al9,ih]
@[go_sem] theorem dq2 (o d r) : (cRw r).map (view o d) = cRw r := by
 obtain ⟨k,n,m⟩:=r
 rw[ai0]
 simp only[List.map_cons,List.map_nil,al5,be1]
@[go_sem] theorem aw3 (o d r) : (cNd r).flatMap (d5 o d) = [] := by
 obtain ⟨k,s,lo,hi,m⟩:=r
 rw[n7]
 simp only[List.flatMap_cons,List.flatMap_nil,al6,bF4,List.append_nil]
@[go_sem] theorem bG2 (o d l) : (G0 l).flatMap (d5 o d) = [] := by
 induction l with
 | nil=>rw[r8];rfl
 | cons r l ih=>rw[E9,List.flatMap_append,aw3,ih];rfl
@[go_sem] theorem dq3 (o d r) : (cRw r).flatMap (d5 o d) = [] := by
 obtain ⟨k,n,m⟩:=r
 rw[ai0]
 simp only[List.flatMap_cons,List.flatMap_nil,al6,bF4,List.append_nil]
theorem bG3 {l : List Rw} {i : Nat} (h : i < l.length) : (aV6 l).drop (i * 3) = cRw (l.getD i default)++aV6 (l.drop (i+1)) := by
 induction l generalizing i with
 | nil=>simp at h
 | cons r l ih =>
  cases i with
  | zero=>rw[U5];rfl
  | succ i =>
   rw[U5,show (i+1) * 3 = (cRw r).length+i * 3 by rw[O0];omega,← List.drop_drop,List.drop_left,ih (by simpa using h)]
   rfl
theorem ai9 {l : List Nd} {i : Nat} (h : i < l.length) : (G0 l).drop (i * 5) = cNd (l.getD i default)++G0 (l.drop (i+1)) := by
 induction l generalizing i with
 | nil=>simp at h
 | cons r l ih =>
  cases i with
  | zero=>rw[E9];rfl
  | succ i =>
   rw[E9,show (i+1) * 5 = (cNd r).length+i * 5 by rw[C4];omega,← List.drop_drop,List.drop_left,ih (by simpa using h)]
   rfl
mutual
theorem be6 : ∀ {x y : Rw},cRw x = cRw y→x = y
 | .mk k n l,.mk k' n' l',h=>by
  rw[ai0,ai0] at h
  simp only[List.cons.injEq,AV.int.injEq,AV.sl.injEq,true_and,and_true] at h
  obtain ⟨h1,h2,_,h3⟩:=h
  rw[h1,h2,am0 h3]
theorem am0 : ∀ {x y : List Rw},aV6 x = aV6 y→x = y
 | [],[],_=>rfl
 | [],r :: l,h=>by
  have:=congrArg List.length h
  rw[aw2,aB6] at this
  simp at this
 | r :: l,[],h=>by
  have:=congrArg List.length h
  rw[aw2,aB6] at this
  simp at this
 | r :: l,r' :: l',h=>by
  rw[U5,U5] at h
  obtain ⟨h1,h2⟩:=List.append_inj h (by rw[O0,O0])
  rw[be6 h1,am0 h2]
end
mutual
theorem K0 : ∀ {x y : Nd},cNd x = cNd y→x = y
 | .mk k s lo hi l,.mk k' s' lo' hi' l',h=>by
  rw[n7,n7] at h
  simp only[List.cons.injEq,AV.int.injEq,AV.sl.injEq,true_and,and_true] at h
  obtain ⟨h1,h2,h4,h5,_,h3⟩:=h
  rw[h1,h2,h4,h5,am1 h3]
theorem am1 : ∀ {x y : List Nd},G0 x = G0 y→x = y
 | [],[],_=>rfl
 | [],r :: l,h=>by
  have:=congrArg List.length h
  rw[r8,y0] at this
  simp at this
 | r :: l,[],h=>by
  have:=congrArg List.length h
  rw[r8,y0] at this
  simp at this
 | r :: l,r' :: l',h=>by
  rw[E9,E9] at h
  obtain ⟨h1,h2⟩:=List.append_inj h (by rw[C4,C4])
  rw[K0 h1,am1 h2]
end
def bG4 (x : Int) : Int := IntKind.i64.wrap (1 * 2 ^ min (x % 5).toNat 64)
def F7 (n : Int) (ls : List Nd) (i : Nat) : Nd := if i < ls.length then ls.getD i default else .mk 1 (bG4 (IntKind.i64.wrap (n+i))) 0 0 []
def P8 (n : Nat) : Nat := if n≤2 then 2 else if n≤4 then n else 4
def N7 (k n : Int) (ls : List Nd) : Nd :=
 if k % 14≤1 then .mk 1 (1+n % 31) 0 0 []
 else if k % 14≤3 then .mk 1 (bG4 n) 0 0 []
 else if k % 14 = 4 then .mk (if n % 3 = 0 then 2 else 3) 0 0 0 []
 else if k % 14≤7 then .mk 4 0 0 0 ((List.range (P8 ls.length)).map (F7 n ls))
 else if k % 14≤9 then .mk 5 0 0 0 ((List.range (P8 ls.length)).map (F7 n ls))
 else if k % 14 = 10 then .mk 6 0 0 0 [F7 n ls 0]
 else if k % 14 = 11 then .mk 7 0 0 0 [F7 n ls 0]
 else if k % 14 = 12 then .mk 8 0 0 0 [F7 n ls 0]
 else .mk 9 0 (n % 4) (n % 4+IntKind.i64.wrap (n.tdiv 4) % 3) [F7 n ls 0]
mutual
def am2 : Rw→Nd
 | .mk k n l=>N7 k n (B4 l)
def B4 : List Rw→List Nd
 | []=>[]
 | r :: l=>am2 r :: B4 l
end
theorem G3 (l) : (B4 l).length = l.length := by
 induction l with
 | nil=>rw[B4];rfl
 | cons r l ih=>rw[B4,List.length_cons,ih,List.length_cons]
theorem bu3 {l : List Rw} {i : Nat} (h : i < l.length) : (B4 l).getD i default = am2 (l.getD i default) := by
 induction l generalizing i with
 | nil=>simp at h
 | cons r l ih =>
  rw[B4]
  cases i with
  | zero=>rfl
  | succ i=>exact ih (by simpa using h)
abbrev aV8 (r : Rw) : AV := .agg (cRw r)
abbrev j5 (n : Nd) : AV := .agg (cNd n)
set_option maxRecDepth 20000
def Z3 (k : Int) (n : Nat) : Bool := if k = 1 ∨ k = 2 ∨ k = 3 then n == 0 else if k = 4 ∨ k = 5 then decide (2≤n) else if k = 6 ∨ k = 7 ∨ k = 8 ∨ k = 9 then n == 1 else false
def aj0 (k s lo hi : Int) (n : Nat) : Bool := Z3 k n && decide (k = 1 ∨ s = 0) && decide (k = 9 ∨ (lo = 0∧hi = 0)) && decide (k = 1→1≤s∧s≤31) && decide (0≤lo∧lo≤hi∧hi≤9)
mutual
def A4 : Nd→Bool
 | .mk k s lo hi l=>aj0 k s lo hi l.length && O1 l
def O1 : List Nd→Bool
 | []=>true
 | x :: l=>A4 x && O1 l
end
theorem aB7 {l : List Nd} : O1 l = l.all A4 := by
 induction l with
 | nil=>rw[O1];rfl
 | cons x l ih=>rw[O1,ih,List.all_cons]
mutual
def aq3 : Nd→Bool
 | .mk _ _ _ _ l=>decide (l.length≤1000) && am3 l
def am3 : List Nd→Bool
 | []=>true
 | x :: l=>aq3 x && am3 l
end
theorem bu4 {l : List Nd} : am3 l = l.all aq3 := by
 induction l with
 | nil=>rw[am3];rfl
 | cons x l ih=>rw[am3,ih,List.all_cons]
theorem bG5 {l : List Nd} (h : am3 l = true) {i : Nat} (hi : i < l.length) : aq3 (l.getD i default) = true := by
 rw[bu4,List.all_eq_true] at h
 rw[List.getD_eq_getElem?_getD,List.getElem?_eq_getElem hi]
 exact h _ (List.getElem_mem hi)
theorem aK0 {l : List Nd} {j : Nat} (hj : j < l.length) (k s lo hi : Int) : SizeOf.sizeOf (l.getD j default) < SizeOf.sizeOf (Nd.mk k s lo hi l) := by
 rw[List.getD_eq_getElem?_getD,List.getElem?_eq_getElem hj,Option.getD_some]
 have:=List.sizeOf_lt_of_mem (List.getElem_mem hj)
 simp only[Nd.mk.sizeOf_spec]
 omega
theorem A8 {k s lo hi : Int} {l : List Nd} (h : A4 (.mk k s lo hi l) = true) : (∀ x ∈ l,A4 x = true) ∧
  ((k = 1∧l = []∧lo = 0∧hi = 0∧1≤s∧s≤31) ∨ ((k = 2 ∨ k = 3)∧l = []∧s = 0∧lo = 0∧hi = 0) ∨ ((k = 4 ∨ k = 5)∧s = 0∧lo = 0∧hi = 0∧∃ x y r,l = x :: y :: r) ∨
   ((k = 6 ∨ k = 7 ∨ k = 8)∧s = 0∧lo = 0∧hi = 0∧∃ x,l = [x]) ∨ (k = 9∧s = 0∧0≤lo∧lo≤hi∧hi≤9∧∃ x,l = [x])):=by
 rw[A4,Bool.and_eq_true,aB7] at h
 obtain ⟨h,hl⟩:=h
 refine ⟨fun x hx=>List.all_eq_true.1 hl x hx,?_⟩
 simp only[aj0,Bool.and_eq_true,decide_eq_true_eq] at h
 obtain ⟨⟨⟨⟨hc,h1⟩,h2⟩,h3⟩,h4⟩:=h
 unfold Z3 at hc
 split at hc
 ·rename_i hk
  have hl0 : l = []:=by simpa using hc
  rcases hk with rfl | rfl | rfl
  ·have:=h3 rfl
   have:=h2.resolve_left (by decide)
   exact .inl ⟨rfl,hl0,by omega,by omega,by omega,by omega⟩
  ·have:=h2.resolve_left (by decide)
   have:=h1.resolve_left (by decide)
   exact .inr (.inl ⟨.inl rfl,hl0,by omega,by omega,by omega⟩)
  ·have:=h2.resolve_left (by decide)
   have:=h1.resolve_left (by decide)
   exact .inr (.inl ⟨.inr rfl,hl0,by omega,by omega,by omega⟩)
 ·split at hc
  ·rename_i hk
   have hl2 : ∃ x y r,l = x :: y :: r:=by
    match l,hc with
    | x :: y :: r,_=>exact ⟨x,y,r,rfl⟩
   have:=h2.resolve_left (by omega)
   have:=h1.resolve_left (by omega)
   exact .inr (.inr (.inl ⟨hk,by omega,by omega,by omega,hl2⟩))
  ·split at hc
   ·rename_i hk
    have hl1 : ∃ x,l = [x]:=by
     match l,hc with
     | [x],_=>exact ⟨x,rfl⟩
    have:=h1.resolve_left (by omega)
    by_cases h9 : k = 9
    ·exact .inr (.inr (.inr (.inr ⟨h9,by omega,by omega,by omega,by omega,hl1⟩)))
    ·have:=h2.resolve_left h9
     exact .inr (.inr (.inr (.inl ⟨by omega,by omega,by omega,by omega,hl1⟩)))
   ·cases hc
end Go.Proofs.YtpmjpogcaglphaaGreatDoor.A
