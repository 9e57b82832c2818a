/- Expressions read: the reader's levels, the small methods on the reader. -/
import Derived.Test.YtpmjpogcaglphaaGreatDoorMLMCompiles16
import Derived.Test.YtpmjpogcaglphaaGreatDoorMLMCompiles8
import Derived.Test.YtpmjpogcaglphaaGreatDoorMLMCompiles19
set_option linter.unusedVariables false
set_option linter.unusedSimpArgs false
set_option linter.unnecessarySimpa false
namespace Go.Proofs.YtpmjpogcaglphaaGreatDoor.A
open Go
set_option maxRecDepth 20000
theorem O3 {E : Env} {cr : v8} {k : Nat} {nz : Nat→Option (List (Nat × Nat))} {fn : Func} {c : Code} {args : List AV} {o : Ob} {nx : Nat} {K : AV × AH→Prop} (hb : fn.body = some c)
  (h : WP E cr k nz c (A2 args) o nx (fun u a o' nx'=>(u = .normal ∨ u = .ret)∧wO (s7 E.P a ⟨o',nx'⟩ fn.results.toList) (fun vs=>K (ac3 vs,⟨o',nx'⟩)))) : wO (Option.map (fun p=>t8 false p.1 p.2) (av2 E cr k nz fn args ⟨o,nx⟩)) K:=by
 obtain ⟨v,H',h1,h2⟩:=U4 (Post:=fun v o' nx'=>K (v,⟨o',nx'⟩)) hb h
 rw[h1]
 exact h2
abbrev cO3 : AV := .ptr (2,23) (2,23) 0
abbrev dq4 (g : Tag) (d : Nat) : AV := .ptr (2,21) g (d * 2)
structure Stk (o : Ob) (nx : Nat) (s : List UInt8) (at_ : Int) (g : Tag) (d : Nat) (pre : List AV) (vU vJ : AV) (post : List AV) : Prop where
 lt : 3≤nx
 cell : o (2,5) = some (.row ⟨88,1,(2,5),false,true,[.ptr (2,23) (2,23) 0]⟩)
 par : o (2,23) = some (.row ⟨93,1,(2,23),false,true,[.str s,.int .i64 at_,.ref (2,21) g 0 (d+1)]⟩)
 lev : o (2,21) = some (.row ⟨90,2,g,false,true,pre++vU :: vJ :: post⟩)
 len : pre.length = d * 2
 le : d≤30
section
variable {pre post : List AV} {x y z : AV} {n : Nat}
theorem ar4 (h : pre.length = n) : (pre++x :: y :: post).drop n = x :: y :: post := by rw[← h];exact List.drop_left' rfl
theorem aj6 (h : pre.length = n) : (pre++x :: y :: post).drop (n+1) = y :: post := by
 rw[← List.drop_drop,ar4 h];rfl
theorem bK6 (h : pre.length = n) : w9 (pre++x :: y :: post) n [z] = pre++z :: y :: post := by
 unfold w9
 rw[← h,List.take_left' rfl,List.length_singleton,aj6 rfl]
 simp
theorem aX6 (h : pre.length = n) : w9 (pre++x :: y :: post) (n+1) [z] = pre++x :: z :: post := by
 unfold w9
 have e1 : (pre++x :: y :: post).take (n+1) = pre++[x]:=by
  rw[← h,List.take_append,List.take_of_length_le (by omega)]
  simp
 have e2 : (pre++x :: y :: post).drop (n+1+1) = post:=by
  rw[← List.drop_drop,aj6 h];rfl
 rw[e1,List.length_singleton,e2]
 simp
end
theorem m8 {o : Ob} {t t' : Tag} {x} (h : t ≠ t') : upd o t' x t = o t := if_neg h
def KeepB (b : Nat) (o o' : Ob) : Prop := ∀ i k,3≤i→i < b→o' (i,k) = o (i,k)
theorem KeepB.refl (b o) : KeepB b o o := fun _ _ _ _=>rfl
theorem KeepB.trans {b o o' o''} (h1 : KeepB b o o') (h2 : KeepB b o' o'') : KeepB b o o'' := fun i k h h'=>(h2 i k h h').trans (h1 i k h h')
theorem bK7 (X) : d9 (EX md0 X) (fun _=>none) 1 Tryz.f42 = true := by kernel_rfl
theorem ce7 (X) : aS2 (EX md0 X) 42 = true := by kernel_rfl
noncomputable def bK8 (args : List AV) (H : AH) : Option (AV × AH) := if args.length = 1 then av2 (EX md0 (fun _ _=>none)) noR 0 (fun _=>none) Tryz.f42 args H else none
theorem bf9 (args H v H') (h : bK8 args H = some (v,H')) : OkR Tryz.prog 42 args H v H' := by
 unfold bK8 at h
 split at h
 ·rename_i hn
  exact L0 (E:=EX md0 (fun _ _=>none)) (z8 _) (q7 Tryz.prog).1 (q7 Tryz.prog).2 mixed Tryz.func42 (by rw[hn];exact bK7 _) h
 ·cases h
theorem aD8 (args H v H') (h : bK8 args H = some (v,H')) (t : Tag) (_ : t.1 < H.nx) : H'.o t = H.o t := by
 unfold bK8 at h
 split at h
 ·rename_i hn
  rw[← al3 (E:=EX md0 (fun _ _=>none)) (f:=42) Tryz.func42 (by rw[hn];exact bK7 _)] at h
  rw[aq1 (ce7 _) h]
 ·cases h
theorem F4 {o : Ob} {nx : Nat} {s at_ g d pre vU vJ post} {K : AV × AH→Prop} (h : Stk o nx s at_ g d pre vU vJ post) (hK : K (dq4 g d,⟨o,nx+2⟩)) : wO (Option.map (fun p=>t8 false p.1 p.2) (bK8 [cO3] ⟨o,nx⟩)) K := by
 have h2:=h.par
 have h3:=h.lev
 have h4:=h.len
 have h5:=h.le
 have h6 : (pre++vU :: vJ :: post).length = d * 2+(post.length+2):=by rw[List.length_append,h4];rfl
 refine O3 (fn:=Tryz.f42) (c:=Tryz.f42.body.getD .skip) rfl ?_
 simp only[Tryz.f42,Option.getD_some]
 simp (disch:=omega) only[go_sem,h2,h3,h6]
 exact hK
inductive NdAt (o : Ob) (b nx : Nat) : Nat→List AV→Nd→Prop
 | data (d : Nat) (n : Nd) : NdAt o b nx d (cNd n) n
 | leaf (d : Nat) (k s lo hi : Int) : NdAt o b nx d [.int .i64 k,.int .i64 s,.int .i64 lo,.int .i64 hi,.nil] (.mk k s lo hi [])
 | beh (d i : Nat) (g : Tag) (ro : Bool) (k lo hi : Int) (x : Nd) (cs : List AV) : b≤i→i < nx→o (i,19) = some (.row ⟨28,5,g,ro,true,cs⟩)→NdAt o b nx d cs x →
  NdAt o b nx (d+1) [.int .i64 k,.int .i64 0,.int .i64 lo,.int .i64 hi,.ref (i,19) g 0 1] (.mk k 0 lo hi [x])
theorem NdAt.keep {o o' : Ob} {b nx nx' d : Nat} {cs : List AV} {n : Nd} (h : NdAt o b nx d cs n) (hn : nx≤nx') (hk : ∀ i,b≤i→i < nx→o' (i,19) = o (i,19)) : NdAt o' b nx' d cs n := by
 induction h with
 | data d n=>exact .data d n
 | leaf d k s lo hi=>exact .leaf d k s lo hi
 | beh d i g ro k lo hi x cs h1 h2 h3 _ ih=>exact .beh d i g ro k lo hi x cs h1 (by omega) (by rw[hk i h1 h2];exact h3) ih
theorem NdAt.up {o : Ob} {b nx d d' : Nat} {cs : List AV} {n : Nd} (h : NdAt o b nx d cs n) (hd : d≤d') : NdAt o b nx d' cs n := by
 induction h generalizing d' with
 | data d n=>exact .data d' n
 | leaf d k s lo hi=>exact .leaf d' k s lo hi
 | beh d i g ro k lo hi x cs h1 h2 h3 _ ih =>
  obtain ⟨e,rfl⟩ : ∃ e,d' = e+1:=⟨d' - 1,by omega⟩
  exact .beh e i g ro k lo hi x cs h1 h2 h3 (ih (by omega))
theorem NdAt.length {o : Ob} {b nx d : Nat} {cs : List AV} {n : Nd} (h : NdAt o b nx d cs n) : cs.length = 5 := by
 cases h with
 | data=>exact C4 n
 | leaf=>rfl
 | beh=>rfl
theorem NdAt.ok {o : Ob} {b nx d : Nat} {cs : List AV} {n : Nd} (h : NdAt o b nx d cs n) : cs.all w0 = true := by
 cases h with
 | data=>exact cq1 n
 | leaf=>rfl
 | beh=>rfl
inductive NdsP (o : Ob) (b nx d : Nat) : List AV→List Nd→Prop
 | nil : NdsP o b nx d [] []
 | cons (c cs : List AV) (n : Nd) (l : List Nd) : NdAt o b nx d c n→NdsP o b nx d cs l→NdsP o b nx d (c++cs) (n :: l)
theorem NdsP.keep {o o' : Ob} {b nx nx' d : Nat} {cs : List AV} {l : List Nd} (h : NdsP o b nx d cs l) (hn : nx≤nx') (hk : ∀ i,b≤i→i < nx→o' (i,19) = o (i,19)) : NdsP o' b nx' d cs l := by
 induction h with
 | nil=>exact .nil
 | cons c cs n l h1 _ ih=>exact .cons c cs n l (h1.keep hn hk) ih
theorem NdsP.up {o : Ob} {b nx d d' : Nat} {cs : List AV} {l : List Nd} (h : NdsP o b nx d cs l) (hd : d≤d') : NdsP o b nx d' cs l := by
 induction h with
 | nil=>exact .nil
 | cons c cs n l h1 _ ih=>exact .cons c cs n l (h1.up hd) ih
theorem NdsP.length {o : Ob} {b nx d : Nat} {cs : List AV} {l : List Nd} (h : NdsP o b nx d cs l) : cs.length = l.length * 5 := by
 induction h with
 | nil=>rfl
 | cons c cs n l h1 _ ih=>rw[List.length_append,h1.length,ih,List.length_cons];omega
theorem NdsP.snoc {o : Ob} {b nx d : Nat} {cs c : List AV} {l : List Nd} {n : Nd} (h : NdsP o b nx d cs l) (h1 : NdAt o b nx d c n) : NdsP o b nx d (cs++c) (l++[n]) := by
 induction h with
 | nil=>have:=NdsP.cons c [] n [] h1 .nil;rwa [List.append_nil] at this
 | cons c' cs n' l h2 _ ih=>rw[List.append_assoc];exact .cons c' _ n' _ h2 ih
theorem NdsP.last {o : Ob} {b nx d : Nat} : ∀ {l : List Nd} {cs : List AV} {n : Nd},NdsP o b nx d cs (l++[n])→∃ c0 c1,cs = c0++c1∧NdsP o b nx d c0 l∧NdAt o b nx d c1 n
 | [],cs,n,h=>by
  cases h with
  | cons c cs' _ _ h1 h2=>cases h2;exact ⟨[],c,by rw[List.append_nil];rfl,.nil,h1⟩
 | m :: l,cs,n,h=>by
  cases h with
  | cons c cs' _ _ h1 h2 =>
   obtain ⟨c0,c1,rfl,h3,h4⟩:=NdsP.last h2
   exact ⟨c++c0,c1,by rw[List.append_assoc],.cons c c0 m l h1 h3,h4⟩
structure Lv (b : Nat) (o : Ob) (nx D : Nat) (vU vJ : AV) (U J : List Nd) : Prop where
 u : (vU = .nil∧U = []) ∨ ∃ i g,b≤i∧i < nx∧vU = .ref (i,14) g 0 U.length∧o (i,14) = some (.row ⟨28,5,g,false,true,G0 U⟩)
 j : (vJ = .nil∧J = []) ∨ ∃ i g cs,b≤i∧i < nx∧vJ = .ref (i,11) g 0 J.length∧o (i,11) = some (.row ⟨28,5,g,false,true,cs⟩)∧NdsP o b nx D cs J
theorem Lv.keep {b : Nat} {o o' : Ob} {nx nx' D : Nat} {vU vJ : AV} {U J : List Nd} (h : Lv b o nx D vU vJ U J) (hn : nx≤nx') (hk : ∀ i k,b≤i→i < nx→(k = 11 ∨ k = 14 ∨ k = 19)→o' (i,k) = o (i,k)) : Lv b o' nx' D vU vJ U J := by
 refine ⟨?_,?_⟩
 ·rcases h.u with h1 | ⟨i,g,h1,h2,h3,h4⟩
  ·exact .inl h1
  ·exact .inr ⟨i,g,h1,by omega,h3,by rw[hk i 14 h1 h2 (by simp)];exact h4⟩
 ·rcases h.j with h1 | ⟨i,g,cs,h1,h2,h3,h4,h5⟩
  ·exact .inl h1
  ·exact .inr ⟨i,g,cs,h1,by omega,h3,by rw[hk i 11 h1 h2 (by simp)];exact h4,h5.keep hn (fun i' a b'=>hk i' 19 a b' (by simp))⟩
def KeepL (b n : Nat) (o o' : Ob) : Prop := ∀ i k,i < n→(i,k) ≠ (2,21)→(i,k) ≠ (2,23)→(b≤i→k ≠ 11∧k ≠ 14∧k ≠ 19)→o' (i,k) = o (i,k)
def ce8 : Nat→Option (List (Nat × Nat))
 | 1=>some [(3,6),(4,6),(5,6),(9,12)]
 | _=>none
theorem cz6 (X) : d9 (EX md0 X) ce8 2 Tryz.f43 = true := by kernel_rfl
noncomputable def cY2 (args : List AV) (H : AH) : Option (AV × AH) := if args.length = 2 then av2 (EX md0 (fun _ _=>none)) noR 0 ce8 Tryz.f43 args H else none
theorem cz7 (args H v H') (h : cY2 args H = some (v,H')) : OkR Tryz.prog 43 args H v H' := by
 unfold cY2 at h
 split at h
 ·rename_i hn
  exact L0 (E:=EX md0 (fun _ _=>none)) (z8 _) (q7 Tryz.prog).1 (q7 Tryz.prog).2 mixed Tryz.func43 (by rw[hn];exact cz6 _) h
 ·cases h
@[go_sem] theorem cY3 (a : v6) : opd a (.const (Value.agg #[.int .i64 0, .int .i64 0, .int .i64 0, .int .i64 0, .slice none 0 0])) = some (.agg [.int .i64 0, .int .i64 0, .int .i64 0, .int .i64 0, .nil]) := rfl
abbrev nd0 : List AV := [.int .i64 0,.int .i64 0,.int .i64 0,.int .i64 0,.nil]
theorem ce9 {o : Ob} {nx : Nat} {s at_ g d pre vU vJ post} {b D : Nat} {U J : List Nd} {cv : List AV} {n : Nd} (hcv : NdAt o b nx D cv n) {K : AV × AH→Prop} (h : Stk o nx s at_ g d pre vU vJ post) (hL : Lv b o nx D vU vJ U J) (hb : 3≤b) (hbn : b≤nx) (hJ : J.length≤1000)
  (hK : ∀ o' nx' vJ',nx≤nx'→Stk o' nx' s at_ g d pre vU vJ' post→Lv b o' nx' D vU vJ' U (J++[n])→KeepL b nx o o'→K (.tup [],⟨o',nx'⟩)) : wO (Option.map (fun p=>t8 false p.1 p.2) (cY2 [dq4 g d,.agg cv] ⟨o,nx⟩)) K:=by
 have h0:=h.lt
 have h1:=h.cell
 have h2:=h.par
 have h3:=h.lev
 have h4:=h.len
 have h5:=h.le
 have h6 : ∀ x y : AV,(pre++x :: y :: post).length = d * 2+(post.length+2):=fun x y=>by rw[List.length_append,h4];rfl
 have d0 : ∀ x y : AV,(pre++x :: y :: post).drop (d * 2) = x :: y :: post:=fun x y=>ar4 h4
 have d1 : ∀ x y : AV,(pre++x :: y :: post).drop (d * 2+1) = y :: post:=fun x y=>aj6 h4
 have s1 : ∀ x y z : AV,w9 (pre++x :: y :: post) (d * 2+1) [z] = pre++x :: z :: post:=fun x y z=>aX6 h4
 have v1:=hcv.length
 have v2:=hcv.ok
 have v3 : cv.take 5 = cv:=j7 v1
 refine O3 (fn:=Tryz.f43) (c:=Tryz.f43.body.getD .skip) rfl ?_
 simp only[Tryz.f43,Option.getD_some]
 rcases hL.j with ⟨rfl,rfl⟩ | ⟨i,gj,cs,i1,i2,rfl,i3,i4⟩
 ·simp (disch:=omega) only[go_sem,ce8,h1,h2,h3,h6,d0,d1,s1,v1,v2,v3]
  refine hK _ _ _ (by omega) ⟨by omega,by simp (disch:=omega) only[go_sem,h1],by simp (disch:=omega) only[go_sem,h2],d8 _ _ _,h4,h5⟩ ⟨?_,?_⟩ ?_
  ·rcases hL.u with h7 | ⟨i,gu,i1,i2,i3,i4⟩
   ·exact .inl h7
   ·exact .inr ⟨i,gu,i1,by omega,i3,by simp[b9,i4]⟩
  ·exact .inr ⟨nx+1,(nx+1,11),cv,by omega,by omega,rfl,by simp[b9],NdsP.snoc .nil (hcv.keep (by omega) (fun i' _ _=>by simp[b9]))⟩
  ·intro i k hi a1 a2 a3
   have e1 : ¬ i = nx:=by omega
   have e2 : ¬ i = nx+1:=by omega
   rw[m8 a1]
   simp[b9,e1,e2]
 ·have hlen:=i4.length
  have htk : cs.take (J.length * 5) = cs:=j7 hlen
  have hspl : w9 (cs++nd0) (J.length * 5) cv = cs++cv:=by
   unfold w9
   rw[← hlen,List.take_left' rfl,List.drop_of_length_le (by simp[v1])]
   simp
  simp (disch:=omega) only[go_sem,ce8,h1,h2,h3,h6,d0,d1,s1,i3,htk,hspl,v1,v2,v3]
  refine hK _ _ _ (by omega) ⟨by omega,by simp (disch:=omega) only[go_sem,h1],by simp (disch:=omega) only[go_sem,h2],d8 _ _ _,h4,h5⟩ ⟨?_,?_⟩ ?_
  ·rcases hL.u with h7 | ⟨i',gu,j1,j2,j3,j4⟩
   ·exact .inl h7
   ·exact .inr ⟨i',gu,j1,by omega,j3,by simp[b9,j4]⟩
  ·exact .inr ⟨i,(nx+1,11),cs++cv,by omega,by omega,by rw[List.length_append,List.length_singleton],by simp[b9],NdsP.snoc (i4.keep (by omega) (fun i' _ _=>by simp[b9])) (hcv.keep (by omega) (fun i' _ _=>by simp[b9]))⟩
  ·intro i' k hi a1 a2 a3
   have e1 : ¬ i' = nx:=by omega
   have e2 : ¬ i' = nx+1:=by omega
   have e4 : (i',k) ≠ (i,11):=fun e=>(a3 (by cases e;omega)).1 (by cases e;rfl)
   rw[m8 a1,m8 e4,m8 e4]
   simp[b9,e1,e2]
noncomputable def cY4 : v8 := p8 [(42,bK8),(43,cY2)]
theorem bK9 : x8 Tryz.prog cY4∧Up cY4 := m9 (m9 (C1 _) cz7) bf9 (fun _=>aD8)
def bL0 : Nat→Option (List (Nat × Nat))
 | 1=>some [(1,2)]
 | _=>none
theorem cz8 (X) : d9 (EX md0 X) bL0 2 Tryz.f41 = true := by kernel_rfl
noncomputable def cY5 (args : List AV) (H : AH) : Option (AV × AH) := if args.length = 2 then av2 (EX md0 (fun _ _=>none)) cY4 0 bL0 Tryz.f41 args H else none
theorem cz9 (args H v H') (h : cY5 args H = some (v,H')) : OkR Tryz.prog 41 args H v H' := by
 unfold cY5 at h
 split at h
 ·rename_i hn
  exact L0 (E:=EX md0 (fun _ _=>none)) (z8 _) bK9.1 bK9.2 mixed Tryz.func41 (by rw[hn];exact cz8 _) h
 ·cases h
@[go_sem] theorem cf0 (v H) : t8 false v H = (v, H) := rfl
theorem aO9 : cY4 42 = bK8 := rfl
theorem aP0 : cY4 43 = cY2 := rfl
theorem Stk.keep {o o' : Ob} {nx nx' s at_ g d pre vU vJ post} (h : Stk o nx s at_ g d pre vU vJ post) (hn : nx≤nx') (h1 : o' (2,5) = o (2,5)) (h2 : o' (2,23) = o (2,23)) (h3 : o' (2,21) = o (2,21)) : Stk o' nx' s at_ g d pre vU vJ post :=
 ⟨by have:=h.lt;omega,h1.trans h.cell,h2.trans h.par,h3.trans h.lev,h.len,h.le⟩
theorem aP1 {o : Ob} {nx : Nat} {s at_ g d pre vU vJ post} {b D : Nat} {U J : List Nd} {cv : List AV} {n : Nd} (hcv : NdAt o b nx D cv n) {K : AV × AH→Prop} (h : Stk o nx s at_ g d pre vU vJ post) (hL : Lv b o nx D vU vJ U J) (hb : 3≤b) (hbn : b≤nx) (hJ : J.length≤1000)
  (hK : ∀ o' nx' vJ',nx≤nx'→Stk o' nx' s at_ g d pre vU vJ' post→Lv b o' nx' D vU vJ' U (J++[n])→KeepL b nx o o'→K (.tup [],⟨o',nx'⟩)) : wO (Option.map (fun p=>t8 false p.1 p.2) (cY5 [.agg cv,.ptr (2,5) (2,5) 0] ⟨o,nx⟩)) K:=by
 have h0:=h.lt
 have h1:=h.cell
 refine O3 (fn:=Tryz.f41) (c:=Tryz.f41.body.getD .skip) rfl ?_
 simp only[Tryz.f41,Option.getD_some]
 have hone : ∀ x,Stk (upd o (nx,2) x) (nx+1+1) s at_ g d pre vU vJ post:=fun x=>h.keep (by omega) (by simp[b9]) (by simp[b9]) (by simp[b9])
 have hlv : ∀ x,Lv b (upd o (nx,2) x) (nx+1+1) D vU vJ U J:=fun x=>hL.keep (by omega) (fun i k _ _ hk=>by rcases hk with rfl | rfl | rfl <;> simp[b9])
 have v1:=hcv.length
 have v2:=hcv.ok
 have v3 : cv.take 5 = cv:=j7 v1
 simp (disch:=omega) only[go_sem,bL0,h1,aO9,aP0,v1,v2,v3]
 refine F4 (hone _) ?_
 simp (disch:=omega) only[go_sem,bL0,h1,aO9,aP0,v1,v2,v3]
 refine ce9 (hcv.keep (by omega) (fun i' _ _=>by simp[b9])) ((hone _).keep (by omega) rfl rfl rfl) ((hlv _).keep (by omega) (fun _ _ _ _ _=>rfl)) hb (by omega) hJ (fun o' nx' vJ' a1 a2 a3 a4=>?_)
 simp (disch:=omega) only[go_sem,bL0,h1,aO9,aP0]
 refine hK _ _ _ (by omega) a2 a3 (fun i k hi b1 b2 b3=>?_)
 rw[a4 i k (by omega) b1 b2 b3]
 have e1 : ¬ i = nx:=by omega
 simp[b9,e1]
end Go.Proofs.YtpmjpogcaglphaaGreatDoor.A
namespace Go.Proofs.YtpmjpogcaglphaaGreatDoor.A
open Go
set_option maxRecDepth 20000
def A6 (k : Int) : List Nd→Nd
 | [x]=>x
 | l=>.mk k 0 0 0 l
def cf1 (args : List AV) (r : AV) : Prop := ∃ k l,l ≠ []∧l.length≤1000∧args = [.int .i64 k,slN l]∧r = j5 (A6 k l)
theorem cf2 (X) : d9 (EX md0 X) (fun _=>none) 2 Tryz.f50 = true := by kernel_rfl
theorem bL1 (args r) (h : cf1 args r) : Ok Tryz.prog 50 args r := by
 obtain ⟨k,l,h0,h1,rfl,rfl⟩:=h
 refine m7 (E:=EX md0 (fun _ _=>none)) (z8 _) (q7 _) mixed (k:=0) Tryz.func50 (cf2 _) rfl ?_
 simp only[Tryz.f50,Option.getD_some]
 match l,h0,h1 with
 | [x],_,_ =>
  have e : G0 [x] = cNd x:=A5 x
  obtain ⟨k',s',lo',hi',l'⟩:=x
  simp (disch:=omega) only[go_sem,e,A6]
  rw[j5,n7]
 | x :: y :: l,_,h1 =>
  have e : A6 k (x :: y :: l) = .mk k 0 0 0 (x :: y :: l):=rfl
  have e2 : ¬ (x :: y :: l).length = 1:=by simp
  have e3 : ¬ (x :: y :: l).length = 0:=by simp
  rw[e]
  generalize x :: y :: l = L at *
  have htk : (G0 L).take (L.length * 5) = G0 L:=j7 (y0 L)
  simp (disch:=omega) only[go_sem,e2,e3,htk]
  rw[j5,n7]
def F8 (c : Int) : Nd :=
 if c = 119 then .mk 1 1 0 0 [] else if c = 98 then .mk 1 2 0 0 [] else if c = 99 then .mk 1 4 0 0 [] else if c = 102 then .mk 1 8 0 0 [] else if c = 116 then .mk 1 16 0 0 [] else
 if c = 46 then .mk 1 31 0 0 [] else if c = 48 then .mk 2 0 0 0 [] else if c = 95 then .mk 3 0 0 0 [] else .mk 0 0 0 0 []
def au5 : List UInt8 := [119,98,99,102,116]
def I1 (c : Int) : Int := if c = 119 then 0 else if c = 98 then 1 else if c = 99 then 2 else if c = 102 then 3 else if c = 116 then 4 else -1
def cO4 (args : List AV) (r : AV) : Prop := ∃ c : UInt8,args = [.str au5,.int .u8 c.toNat]∧r = .int .i64 (I1 c.toNat)
theorem cf3 (args r) (h : cO4 args r) : Ok Tryz.prog 90 args r := by
 obtain ⟨c,rfl,rfl⟩:=h
 refine cq6 _ _ ⟨au5,c.toNat,rfl,?_⟩
 have e : ((c.toNat : Int)).toNat.toUInt8 = c:=by rw[Int.toNat_natCast];exact UInt8.ofNat_toNat
 rw[e]
 have : ∀ n : Fin 256,Lib.indexByte au5 (UInt8.ofNat n.1) = I1 (n.1 : Int):=by decide +kernel
 have h2:=this ⟨c.toNat,c.toNat_lt⟩
 rw[UInt8.ofNat_toNat] at h2
 rw[h2]
theorem bL2 (X) : d9 (EX md0 X) (fun _=>none) 1 Tryz.f44 = true := by kernel_rfl
theorem bL3 : N2 cO4 := by
 rintro args r r' ⟨c,rfl,rfl⟩ ⟨c',h,rfl⟩
 simp only[List.cons.injEq,AV.int.injEq,and_true,true_and] at h
 rw[h]
theorem cA0 (X) : d9 (EX md0 X) (fun _=>none) 2 Tryz.f70 = true := by kernel_rfl
theorem cA1 (args r) (h : cO4 args r) : Ok Tryz.prog 70 args r := by
 have h0:=h
 obtain ⟨c,rfl,rfl⟩:=h
 have h1 : t7 [(90,D9 cO4)] 90 [.str au5,.int .u8 c.toNat] = some (.int .i64 (I1 c.toNat)):=o8 bL3 h0
 refine m7 (E:=EX md0 (t7 [(90,D9 cO4)])) (l8 (t6 _) (n8 cf3)) (q7 _) mixed (k:=0) Tryz.func70 (cA0 _) rfl ?_
 simp only[Tryz.f70,Option.getD_some]
 simp (disch:=omega) only[go_sem,h1]
noncomputable def XIx : FuncId→List AV→Option AV := t7 [(70,D9 cO4)]
theorem bL4 : s6 Tryz.prog XIx := l8 (t6 _) (n8 cA1)
theorem cq7 (c : UInt8) : XIx 70 [.str au5,.int .u8 c.toNat] = some (.int .i64 (I1 c.toNat)) := o8 bL3 ⟨c,rfl,rfl⟩
def bL5 (args : List AV) (r : AV) : Prop := ∃ c : UInt8,args = [.int .u8 c.toNat]∧r = j5 (F8 c.toNat)
theorem cf4 (args r) (h : bL5 args r) : Ok Tryz.prog 44 args r := by
 obtain ⟨c,rfl,rfl⟩:=h
 refine m7 (E:=EX md0 XIx) bL4 (q7 _) mixed (k:=0) Tryz.func44 (bL2 _) rfl ?_
 have hx:=cq7 c
 simp only[Tryz.f44,Option.getD_some]
 generalize (c.toNat : Int) = n at *
 unfold I1 au5 at hx
 unfold F8
 by_cases c1 : n = 119
 ·subst c1;simp (disch:=omega) only[go_sem,hx];(simp only[j5,n7,slN,r8,List.length_nil] <;> rfl)
 by_cases c2 : n = 98
 ·subst c2;simp (disch:=omega) only[go_sem,hx];(simp only[j5,n7,slN,r8,List.length_nil] <;> rfl)
 by_cases c3 : n = 99
 ·subst c3;simp (disch:=omega) only[go_sem,hx];(simp only[j5,n7,slN,r8,List.length_nil] <;> rfl)
 by_cases c4 : n = 102
 ·subst c4;simp (disch:=omega) only[go_sem,hx];(simp only[j5,n7,slN,r8,List.length_nil] <;> rfl)
 by_cases c5 : n = 116
 ·subst c5;simp (disch:=omega) only[go_sem,hx];(simp only[j5,n7,slN,r8,List.length_nil] <;> rfl)
 simp only[c1,c2,c3,c4,c5,if_false] at hx
 simp only[c1,c2,c3,c4,c5,if_false]
 by_cases c6 : n = 46
 ·subst c6;simp (disch:=omega) only[go_sem,hx];(simp only[j5,n7,slN,r8,List.length_nil] <;> rfl)
 by_cases c7 : n = 48
 ·subst c7;simp (disch:=omega) only[go_sem,hx];(simp only[j5,n7,slN,r8,List.length_nil] <;> rfl)
 by_cases c8 : n = 95
 ·subst c8;simp (disch:=omega) only[go_sem,hx];(simp only[j5,n7,slN,r8,List.length_nil] <;> rfl)
 simp only[c6,c7,c8,if_false]
 simp (disch:=omega) only[go_sem,hx,c6,c7,c8]
 simp only[j5,n7,slN,r8,List.length_nil]
def G5 (c : Int) : Int := if c = 42 then 6 else if c = 43 then 7 else if c = 63 then 8 else if c = 123 then 9 else 0
def bL6 (args : List AV) (r : AV) : Prop := ∃ c : UInt8,args = [.int .u8 c.toNat]∧r = .int .i64 (G5 c.toNat)
theorem bL7 (X) : d9 (EX md0 X) (fun _=>none) 1 Tryz.f46 = true := by kernel_rfl
theorem cf5 (args r) (h : bL6 args r) : Ok Tryz.prog 46 args r := by
 obtain ⟨c,rfl,rfl⟩:=h
 refine m7 (E:=EX md0 XIx) bL4 (q7 _) mixed (k:=0) Tryz.func46 (bL7 _) rfl ?_
 simp only[Tryz.f46,Option.getD_some]
 generalize (c.toNat : Int) = n at *
 unfold G5
 by_cases c1 : n = 42
 ·subst c1;simp (disch:=omega) only[go_sem]
 by_cases c2 : n = 43
 ·subst c2;simp (disch:=omega) only[go_sem]
 by_cases c3 : n = 63
 ·subst c3;simp (disch:=omega) only[go_sem]
 by_cases c4 : n = 123
 ·subst c4;simp (disch:=omega) only[go_sem]
 simp only[c1,c2,c3,c4,if_false]
 simp (disch:=omega) only[go_sem,c1,c2,c3,c4]
def z7 (s : List UInt8) (a : Int) : Int := ((s.getD a.toNat 0).toNat : Int)
def B7 (s : List UInt8) (a : Int) : Int := if (s.length : Int)≤a then -2 else if 48≤z7 s a∧z7 s a≤57 then z7 s a - 48 else -1
def bL8 (args : List AV) (r : AV) : Prop := ∃ s at_ v a,0≤a∧args = [.fptr [.str s,.int .i64 at_,v],.int .i64 a]∧r = .int .i64 (B7 s a)
theorem bL9 (X) : d9 (EX md0 X) (fun _=>none) 2 Tryz.f71 = true := by kernel_rfl
theorem L8 {s : List UInt8} {a : Int} (h0 : 0≤a) (h1 : ¬ (s.length : Int)≤a) : ∃ c : UInt8,s[a.toNat]? = some c∧z7 s a = c.toNat := by
 have h2 : a.toNat < s.length:=by omega
 exact ⟨s[a.toNat],List.getElem?_eq_getElem h2,by rw[z7,List.getD_eq_getElem?_getD,List.getElem?_eq_getElem h2];rfl⟩
theorem cf6 (args r) (h : bL8 args r) : Ok Tryz.prog 71 args r := by
 obtain ⟨s,at_,v,a,h0,rfl,rfl⟩:=h
 refine m7 (E:=EX md0 (fun _ _=>none)) (z8 _) (q7 _) mixed (k:=0) Tryz.func71 (bL9 _) rfl ?_
 simp only[Tryz.f71,Option.getD_some]
 by_cases h1 : (s.length : Int)≤a
 ·rw[B7,if_pos h1]
  simp (disch:=omega) only[go_sem]
 ·rw[B7,if_neg h1]
  obtain ⟨c,hc,hb⟩:=L8 h0 h1
  rw[hb]
  have hlt:=c.toNat_lt
  by_cases h2 : 48≤(c.toNat : Int)
  ·by_cases h3 : (c.toNat : Int)≤57
   ·rw[if_pos ⟨h2,h3⟩]
    simp (disch:=omega) only[go_sem,hc]
   ·rw[if_neg (by omega)]
    simp (disch:=omega) only[go_sem,hc]
  ·rw[if_neg (by omega)]
   simp (disch:=omega) only[go_sem,hc]
def D7 (s : List UInt8) (a : Int) (c : UInt8) : Int := if (s.length : Int)≤a then s.length else if z7 s a = c.toNat then -1 else a
def bg0 (args : List AV) (r : AV) : Prop := ∃ s at_ v a c,0≤a∧args = [.fptr [.str s,.int .i64 at_,v],.int .i64 a,.int .u8 (UInt8.toNat c)]∧r = .int .i64 (D7 s a c)
theorem bx2 (X) : d9 (EX md0 X) (fun _=>none) 3 Tryz.f72 = true := by kernel_rfl
theorem bM0 (args r) (h : bg0 args r) : Ok Tryz.prog 72 args r := by
 obtain ⟨s,at_,v,a,c,h0,rfl,rfl⟩:=h
 refine m7 (E:=EX md0 (fun _ _=>none)) (z8 _) (q7 _) mixed (k:=0) Tryz.func72 (bx2 _) rfl ?_
 simp only[Tryz.f72,Option.getD_some]
 have m1 : cJ7 [.int .i64 a,.int .i64 s.length] = some (.int .i64 (if (s.length : Int) < a then s.length else a)):=rfl
 by_cases h1 : (s.length : Int)≤a
 ·rw[D7,if_pos h1]
  have m2 : (if (s.length : Int) < a then (s.length : Int) else a) = s.length:=by split <;> omega
  rw[m2] at m1
  simp (disch:=omega) only[go_sem,m1]
 ·rw[D7,if_neg h1]
  obtain ⟨e,he,hb⟩:=L8 h0 h1
  rw[hb]
  have hlt:=c.toNat_lt
  have hlt':=e.toNat_lt
  by_cases h2 : (e.toNat : Int) = c.toNat
  ·rw[if_pos h2]
   simp (disch:=omega) only[go_sem,he,h2,h1]
  ·rw[if_neg h2]
   rw[if_neg (by omega)] at m1
   simp (disch:=omega) only[go_sem,he,h2,m1,h1]
def y9 (s : List UInt8) (at_ : Int) : Int × Int × Int :=
 if B7 s (at_+1) = -2 then (0,0,s.length) else if B7 s (at_+1) < 0 then (0,0,at_) else
 if 0≤D7 s (at_+2) 44 then (0,0,D7 s (at_+2) 44) else
 if B7 s (at_+3) = -2 then (0,0,s.length) else if B7 s (at_+3) < 0 then (0,0,at_) else
 if 0≤D7 s (at_+4) 125 then (0,0,D7 s (at_+4) 125) else
 if B7 s (at_+3) < B7 s (at_+1) then (0,0,at_) else (B7 s (at_+1),B7 s (at_+3),-1)
def bM1 (args : List AV) (r : AV) : Prop := ∃ s at_ v,0≤at_∧at_≤1000∧args = [.fptr [.str s,.int .i64 at_,v]]∧r = .tup [.int .i64 (y9 s at_).1,.int .i64 (y9 s at_).2.1,.int .i64 (y9 s at_).2.2]
theorem bM2 (X) : d9 (EX md0 X) (fun _=>none) 1 Tryz.f47 = true := by kernel_rfl
theorem bM3 : N2 bL8 := by
 rintro args r r' ⟨s,a,v,x,_,rfl,rfl⟩ ⟨s',a',v',x',_,h,rfl⟩
 simp only[List.cons.injEq,AV.fptr.injEq,AV.str.injEq,AV.int.injEq,and_true,true_and] at h
 rw[h.1.1,h.2]
theorem bx3 : N2 bg0 := by
 rintro args r r' ⟨s,a,v,x,c,_,rfl,rfl⟩ ⟨s',a',v',x',c',_,h,rfl⟩
 simp only[List.cons.injEq,AV.fptr.injEq,AV.str.injEq,AV.int.injEq,and_true,true_and] at h
 have : c = c':=UInt8.toNat_inj.mp (by omega)
 rw[h.1.1,h.2.1,this]
noncomputable def XDs : FuncId→List AV→Option AV := t7 [(71,D9 bL8),(72,D9 bg0)]
theorem cY6 : s6 Tryz.prog XDs := l8 (l8 (t6 _) (n8 bM0)) (n8 cf6)
theorem bM4 (s at_ v a) (h : 0≤a) : XDs 71 [.fptr [.str s,.int .i64 at_,v],.int .i64 a] = some (.int .i64 (B7 s a)) := o8 bM3 ⟨s,at_,v,a,h,rfl,rfl⟩
theorem bm7 (s at_ v a) (c : UInt8) (h : 0≤a) : XDs 72 [.fptr [.str s,.int .i64 at_,v],.int .i64 a,.int .u8 (UInt8.toNat c)] = some (.int .i64 (D7 s a c)) := o8 bx3 ⟨s,at_,v,a,c,h,rfl,rfl⟩
theorem cf7 (args r) (h : bM1 args r) : Ok Tryz.prog 47 args r := by
 obtain ⟨s,at_,v,h0,h1,rfl,rfl⟩:=h
 refine m7 (E:=EX md0 XDs) cY6 (q7 _) mixed (k:=0) Tryz.func47 (bM2 _) rfl ?_
 have x1 : ∀ a : Int,0≤a→XDs 71 [.fptr [.str s,.int .i64 at_,v],.int .i64 a] = some (.int .i64 (B7 s a)):=fun a ha=>bM4 s at_ v a ha
 have x2 : ∀ a : Int,0≤a→XDs 72 [.fptr [.str s,.int .i64 at_,v],.int .i64 a,.int .u8 44] = some (.int .i64 (D7 s a 44)):=fun a ha=>bm7 s at_ v a 44 ha
 have x3 : ∀ a : Int,0≤a→XDs 72 [.fptr [.str s,.int .i64 at_,v],.int .i64 a,.int .u8 125] = some (.int .i64 (D7 s a 125)):=fun a ha=>bm7 s at_ v a 125 ha
 simp only[Tryz.f47,Option.getD_some]
 unfold y9
 by_cases c1 : B7 s (at_+1) = -2
 ·rw[if_pos c1]
  simp (disch:=omega) only[go_sem,x1,x2,x3,c1]
 rw[if_neg c1]
 by_cases c2 : B7 s (at_+1) < 0
 ·rw[if_pos c2]
  simp (disch:=omega) only[go_sem,x1,x2,x3,c1,c2]
 rw[if_neg c2]
 by_cases c3 : 0≤D7 s (at_+2) 44
 ·rw[if_pos c3]
  simp (disch:=omega) only[go_sem,x1,x2,x3,c1,c2,c3]
 rw[if_neg c3]
 by_cases c4 : B7 s (at_+3) = -2
 ·rw[if_pos c4]
  simp (disch:=omega) only[go_sem,x1,x2,x3,c1,c2,c3,c4]
 rw[if_neg c4]
 by_cases c5 : B7 s (at_+3) < 0
 ·rw[if_pos c5]
  simp (disch:=omega) only[go_sem,x1,x2,x3,c1,c2,c3,c4,c5]
 rw[if_neg c5]
 by_cases c6 : 0≤D7 s (at_+4) 125
 ·rw[if_pos c6]
  simp (disch:=omega) only[go_sem,x1,x2,x3,c1,c2,c3,c4,c5,c6]
 rw[if_neg c6]
 by_cases c7 : B7 s (at_+3) < B7 s (at_+1)
 ·rw[if_pos c7]
  simp (disch:=omega) only[go_sem,x1,x2,x3,c1,c2,c3,c4,c5,c6,c7]
 rw[if_neg c7]
 simp (disch:=omega) only[go_sem,x1,x2,x3,c1,c2,c3,c4,c5,c6,c7]
set_option maxRecDepth 20000
theorem bm8 (X) : d9 (EX md0 X) (fun _=>none) 1 Tryz.f73 = true := by kernel_rfl
theorem bM5 (X) : aS2 (EX md0 X) 73 = true := by kernel_rfl
noncomputable def bg1 (args : List AV) (H : AH) : Option (AV × AH) := if args.length = 1 then av2 (EX md0 (fun _ _=>none)) noR 0 (fun _=>none) Tryz.f73 args H else none
theorem cf8 (args H v H') (h : bg1 args H = some (v,H')) : OkR Tryz.prog 73 args H v H' := by
 unfold bg1 at h
 split at h
 ·rename_i hn
  exact L0 (E:=EX md0 (fun _ _=>none)) (z8 _) (q7 Tryz.prog).1 (q7 Tryz.prog).2 mixed Tryz.func73 (by rw[hn];exact bm8 _) h
 ·cases h
theorem bx4 (args H v H') (h : bg1 args H = some (v,H')) (t : Tag) (_ : t.1 < H.nx) : H'.o t = H.o t := by
 unfold bg1 at h
 split at h
 ·rename_i hn
  rw[← al3 (E:=EX md0 (fun _ _=>none)) (f:=73) Tryz.func73 (by rw[hn];exact bm8 _)] at h
  rw[aq1 (bM5 _) h]
 ·cases h
theorem bM6 {o : Ob} {nx : Nat} {s at_ g d pre vU post} {i : Nat} {gj : Tag} {n : Nat} {cs : List AV} {K : AV × AH→Prop} (h : Stk o nx s at_ g d pre vU (.ref (i,11) gj 0 (n+1)) post) (hj : o (i,11) = some (.row ⟨28,5,gj,false,true,cs⟩)) (hc : cs.length = (n+1) * 5) (hn : n≤1000) (hK : K (.ptr (i,11) gj (n * 5),⟨o,nx+2⟩)) : wO (Option.map (fun p=>t8 false p.1 p.2) (bg1 [dq4 g d] ⟨o,nx⟩)) K := by
 have h2:=h.par
 have h3:=h.lev
 have h4:=h.len
 have h5:=h.le
 have h6 : ∀ x y : AV,(pre++x :: y :: post).length = d * 2+(post.length+2):=fun x y=>by rw[List.length_append,h4];rfl
 have d0 : ∀ x y : AV,(pre++x :: y :: post).drop (d * 2) = x :: y :: post:=fun x y=>ar4 h4
 have d1 : ∀ x y : AV,(pre++x :: y :: post).drop (d * 2+1) = y :: post:=fun x y=>aj6 h4
 refine O3 (fn:=Tryz.f73) (c:=Tryz.f73.body.getD .skip) rfl ?_
 simp only[Tryz.f73,Option.getD_some]
 simp (disch:=omega) only[go_sem,h3,h6,d0,d1,hj,hc]
 exact hK
noncomputable def cY7 : v8 := p8 [(42,bK8),(73,bg1)]
theorem bM7 : x8 Tryz.prog cY7∧Up cY7 := m9 (m9 (C1 _) cf8 (fun _=>bx4)) bf9 (fun _=>aD8)
def bM8 : Nat→Option (List (Nat × Nat))
 | _=>none
theorem cA2 (X) : d9 (EX md0 X) bM8 4 Tryz.f48 = true := by kernel_rfl
noncomputable def cY8 (args : List AV) (H : AH) : Option (AV × AH) := if args.length = 4 then av2 (EX md0 (fun _ _=>none)) cY7 0 bM8 Tryz.f48 args H else none
theorem cA3 (args H v H') (h : cY8 args H = some (v,H')) : OkR Tryz.prog 48 args H v H' := by
 unfold cY8 at h
 split at h
 ·rename_i hn
  exact L0 (E:=EX md0 (fun _ _=>none)) (z8 _) bM7.1 bM7.2 mixed Tryz.func48 (by rw[hn];exact cA2 _) h
 ·cases h
theorem aP2 : cY7 42 = bK8 := rfl
theorem aD9 : cY7 73 = bg1 := rfl
theorem bm9 {o : Ob} {nx : Nat} {s at_ g d pre vU vJ post} {b D : Nat} {U J : List Nd} (k lo hi : Int) (x : Nd) {K : AV × AH→Prop} (h : Stk o nx s at_ g d pre vU vJ post) (hL : Lv b o nx D vU vJ U (J++[x])) (hb : 3≤b) (hbn : b≤nx) (hJ : J.length≤1000)
  (hK : ∀ o' nx' vJ',nx≤nx'→Stk o' nx' s at_ g d pre vU vJ' post→Lv b o' nx' (D+1) vU vJ' U (J++[.mk k 0 lo hi [x]])→KeepL b nx o o'→K (.tup [],⟨o',nx'⟩)) : wO (Option.map (fun p=>t8 false p.1 p.2) (cY8 [cO3,.int .i64 k,.int .i64 lo,.int .i64 hi] ⟨o,nx⟩)) K:=by
 have h1:=h.cell
 have h2:=h.par
 have h3:=h.lev
 have h0:=h.lt
 rcases hL.j with ⟨_,e⟩ | ⟨i,gj,cs,i1,i2,rfl,i3,i4⟩
 ·exact absurd e (by simp)
 rw[List.length_append,List.length_singleton] at *
 obtain ⟨c0,c1,rfl,n0,n1⟩:=i4.last
 have l0:=n0.length
 have l1:=n1.length
 have k1:=n1.ok
 refine O3 (fn:=Tryz.f48) (c:=Tryz.f48.body.getD .skip) rfl ?_
 simp only[Tryz.f48,Option.getD_some]
 simp (disch:=omega) only[go_sem,bM8,aP2,aD9]
 refine F4 (h.keep (by omega) rfl rfl rfl) ?_
 simp (disch:=omega) only[go_sem,bM8,aP2,aD9]
 refine bM6 (cs:=c0++c1) (h.keep (by omega) rfl rfl rfl) i3 (by rw[List.length_append,l0,l1];omega) hJ ?_
 have hd : (c0++c1).drop (J.length * 5) = c1:=by rw[← l0];exact List.drop_left' rfl
 have hl : (c0++c1).length = J.length * 5+5:=by rw[List.length_append,l0,l1]
 have htk : c1.take 5 = c1:=j7 l1
 have hs : ∀ y : List AV,y.length = 5→w9 (c0++c1) (J.length * 5) y = c0++y:=fun y hy=>by
  unfold w9
  rw[← l0,List.take_left' rfl,List.drop_of_length_le (by rw[List.length_append,l1,hy];omega)]
  simp
 have hs1 : ∀ a1 a2 a3 a4 a5 : AV,w9 (c0++c1) (J.length * 5) [a1,a2,a3,a4,a5] = c0++[a1,a2,a3,a4,a5]:=fun _ _ _ _ _=>hs _ rfl
 simp (disch:=omega) only[go_sem,bM8,aP2,aD9,i3,hd,hl,htk,hs1,k1,l1]
 refine hK _ _ _ (by omega) (h.keep (by omega) (by simp[b9]) (by simp[b9]) (by simp[b9])) ⟨?_,?_⟩ ?_
 ·rcases hL.u with h7 | ⟨i',gu,j1,j2,j3,j4⟩
  ·exact .inl h7
  ·exact .inr ⟨i',gu,j1,by omega,j3,by simp[b9,j4]⟩
 ·have hk19 : ∀ (y z : AObj) (i' : Nat),b≤i'→i' < nx→upd (upd o (nx+1+2+2,19) y) (i,11) z (i',19) = o (i',19):=fun y z i' _ hi'=>by
   have e1 : ¬ i' = nx+1+2+2:=by omega
   simp[b9,e1]
  refine .inr ⟨i,gj,_,by omega,by omega,by rw[List.length_append,List.length_singleton],d8 _ _ _,((n0.keep (by omega) (hk19 _ _)).up (by omega)).snoc ?_⟩
  exact .beh D (nx+1+2+2) _ false k lo hi x c1 (by omega) (by omega) (by simp[b9]) (n1.keep (by omega) (hk19 _ _))
 ·intro i' k' hi a1 a2 a3
  have e1 : ¬ i' = nx+1+2+2:=by omega
  have e4 : (i',k') ≠ (i,11):=fun e=>(a3 (by cases e;omega)).1 (by cases e;rfl)
  rw[m8 e4]
  simp[b9,e1]
noncomputable def cf9 : FuncId→List AV→Option AV := t7 [(50,D9 cf1)]
theorem cg0 : s6 Tryz.prog cf9 := l8 (t6 _) (n8 bL1)
theorem bn0 : N2 cf1 := by
 rintro args r r' ⟨k,l,_,_,rfl,rfl⟩ ⟨k',l',_,_,h,rfl⟩
 simp only[List.cons.injEq,AV.int.injEq,AV.sl.injEq,and_true,true_and] at h
 rw[h.1,am1 h.2.2]
theorem cg1 (k : Int) (l : List Nd) (h0 : l ≠ []) (h1 : l.length≤1000) : cf9 50 [.int .i64 k,slN l] = some (j5 (A6 k l)) := o8 bn0 ⟨k,l,h0,h1,rfl,rfl⟩
def dq5 : Nat→Option (List (Nat × Nat))
 | 0=>some [(5,10),(5,11)]
 | _=>none
theorem cY9 (X) : d9 (EX md0 X) dq5 1 Tryz.f49 = true := by kernel_rfl
noncomputable def cOr (args : List AV) (H : AH) : Option (AV × AH) := if args.length = 1 then av2 (EX md0 cf9) noR 0 dq5 Tryz.f49 args H else none
theorem cZ0 (args H v H') (h : cOr args H = some (v,H')) : OkR Tryz.prog 49 args H v H' := by
 unfold cOr at h
 split at h
 ·rename_i hn
  exact L0 (E:=EX md0 cf9) cg0 (q7 Tryz.prog).1 (q7 Tryz.prog).2 mixed Tryz.func49 (by rw[hn];exact cY9 _) h
 ·cases h
theorem NdAt.view {o : Ob} {b nx d : Nat} {cs : List AV} {n : Nd} (h : NdAt o b nx d cs n) : ∀ {e : Nat},d≤e→cs.map (A.view o e) = cNd n := by
 induction h with
 | data d n=>intro e _;exact al9 o e n
 | leaf d k s lo hi =>
  intro e _
  simp (disch:=omega) only[go_sem]
  rw[slN,r8]
  rfl
 | beh d i g ro k lo hi x cs h1 h2 h3 h4 ih =>
  intro e he
  obtain ⟨e,rfl⟩ : ∃ e',e = e'+1:=⟨e - 1,by omega⟩
  have:=ih (e:=e) (by omega)
  have hl:=h4.length
  have htk : cs.take 5 = cs:=j7 hl
  simp (disch:=omega) only[go_sem,h3,htk,this,hl]
  rw[slN,A5]
  rfl
theorem NdsP.view {o : Ob} {b nx d : Nat} {cs : List AV} {l : List Nd} (h : NdsP o b nx d cs l) {e : Nat} (he : d≤e) : cs.map (A.view o e) = G0 l := by
 induction h with
 | nil=>rw[r8];rfl
 | cons c cs n l h1 _ ih=>rw[List.map_append,h1.view he,ih,E9]
theorem NdAt.tags {o : Ob} {b nx d : Nat} {cs : List AV} {n : Nd} (h : NdAt o b nx d cs n) : ∀ (e : Nat) (t : Tag),t ∈ cs.flatMap (d5 o e)→t.2 = 19∧b≤t.1∧t.1 < nx := by
 induction h with
 | data d n=>intro e t ht;rw[aw3] at ht;cases ht
 | leaf d k s lo hi =>
  intro e t ht
  cases e <;> simp[d5] at ht
 | beh d i g ro k lo hi x cs h1 h2 h3 h4 ih =>
  intro e t ht
  cases e with
  | zero=>simp[d5] at ht
  | succ e =>
   have hl:=h4.length
   have htk : cs.take 5 = cs:=j7 hl
   simp (disch:=omega) only[go_sem,h3,htk] at ht
   simp only[List.append_nil,List.nil_append,List.mem_cons] at ht
   rcases ht with rfl | ht
   ·exact ⟨rfl,h1,h2⟩
   ·exact ih e t ht
theorem NdsP.tags {o : Ob} {b nx d : Nat} {cs : List AV} {l : List Nd} (h : NdsP o b nx d cs l) (e : Nat) (t : Tag) (ht : t ∈ cs.flatMap (d5 o e)) : t.2 = 19∧b≤t.1∧t.1 < nx := by
 induction h with
 | nil=>cases ht
 | cons c cs n l h1 _ ih =>
  rw[List.flatMap_append,List.mem_append] at ht
  rcases ht with ht | ht
  ·exact h1.tags e t ht
  ·exact ih ht
theorem Lv.viewJ {b : Nat} {o : Ob} {nx D : Nat} {vU vJ : AV} {U J : List Nd} (h : Lv b o nx D vU vJ U J) (hD : D≤1000) (hJ : J ≠ []) : A.view o 1012 vJ = slN J := by
 rcases h.j with ⟨_,e⟩ | ⟨i,gj,cs,i1,i2,rfl,i3,i4⟩
 ·exact absurd e hJ
 have hl:=i4.length
 have htk : cs.take (J.length * 5) = cs:=j7 hl
 have hv:=i4.view (e:=1011) (by omega)
 simp (disch:=omega) only[go_sem,i3,hl,htk,hv]
theorem Lv.tagsJ {b : Nat} {o : Ob} {nx D : Nat} {vU vJ : AV} {U J : List Nd} (h : Lv b o nx D vU vJ U J) (t : Tag) (ht : t ∈ d5 o 1012 vJ) : (t.2 = 11 ∨ t.2 = 19)∧b≤t.1∧t.1 < nx := by
 rcases h.j with ⟨rfl,e⟩ | ⟨i,gj,cs,i1,i2,rfl,i3,i4⟩
 ·simp[d5] at ht
 have hl:=i4.length
 have htk : cs.take (J.length * 5) = cs:=j7 hl
 simp (disch:=omega) only[go_sem,i3,htk] at ht
 simp only[List.drop_zero,List.mem_cons,htk] at ht
 rcases ht with rfl | ht
 ·exact ⟨.inl rfl,i1,i2⟩
 ·have:=i4.tags 1011 t ht
  exact ⟨.inr this.1,this.2⟩
theorem bn1 {t : Tag} {l : List Tag} (h : t ∉ l) : nin t l = true := by unfold nin;simp[h]
theorem bg2 {o : Ob} {nx : Nat} {s at_ g d pre vU vJ post} {b D : Nat} {U J : List Nd} {K : AV × AH→Prop} (h : Stk o nx s at_ g d pre vU vJ post) (hL : Lv b o nx D vU vJ U J) (hb : 3≤b) (hbn : b≤nx) (hD : D≤1000) (hJ0 : J ≠ []) (hJ : J.length≤1000) (hU : U.length≤1000)
  (hK : ∀ o' nx' vU',nx≤nx'→Stk o' nx' s at_ g d pre vU' .nil post→Lv b o' nx' D vU' .nil (U++[A6 4 J]) []→KeepL b nx o o'→K (.tup [],⟨o',nx'⟩)) : wO (Option.map (fun p=>t8 false p.1 p.2) (cOr [dq4 g d] ⟨o,nx⟩)) K:=by
 have h0:=h.lt
 have h1:=h.cell
 have h2:=h.par
 have h3:=h.lev
 have h4:=h.len
 have h5:=h.le
 have h6 : ∀ x y : AV,(pre++x :: y :: post).length = d * 2+(post.length+2):=fun x y=>by rw[List.length_append,h4];rfl
 have d0 : ∀ x y : AV,(pre++x :: y :: post).drop (d * 2) = x :: y :: post:=fun x y=>ar4 h4
 have d1 : ∀ x y : AV,(pre++x :: y :: post).drop (d * 2+1) = y :: post:=fun x y=>aj6 h4
 have s0 : ∀ x y z : AV,w9 (pre++x :: y :: post) (d * 2) [z] = pre++z :: y :: post:=fun x y z=>bK6 h4
 have s1 : ∀ x y z : AV,w9 (pre++x :: y :: post) (d * 2+1) [z] = pre++x :: z :: post:=fun x y z=>aX6 h4
 have hv:=hL.viewJ hD hJ0
 have ht:=hL.tagsJ
 have hn : ∀ i k,k ≠ 11→k ≠ 19→nin (i,k) (d5 o 1012 vJ) = true:=fun i k e1 e2=>bn1 (fun hm=>by have:=(ht _ hm).1;simp_all)
 have hX:=cg1 4 J hJ0 hJ
 have hkp : ∀ i k,(b≤i→i < nx→k ≠ 11∧k ≠ 19)→I7 (d5 o 1012 vJ) o (i,k) = o (i,k):=fun i k hk=>N9 (fun hm=>by
  obtain ⟨e1,e2,e3⟩:=ht _ hm
  have:=hk e2 e3
  rcases e1 with e1 | e1
  ·exact this.1 e1
  ·exact this.2 e1)
 have hall : ((d5 o 1012 vJ).all fun t=>nin t [(2,21)]) = true:=by
  rw[List.all_eq_true]
  intro t hm
  refine bn1 (fun e=>?_)
  rw[List.mem_singleton] at e
  subst e
  have:=(ht _ hm).2.1
  simp at this
  omega
 refine O3 (fn:=Tryz.f49) (c:=Tryz.f49.body.getD .skip) rfl ?_
 simp only[Tryz.f49,Option.getD_some]
 rcases hL.u with ⟨rfl,rfl⟩ | ⟨i,gu,i1,i2,rfl,i3⟩
 ·simp (disch:=omega) only[go_sem,dq5,h1,h2,h3,h6,d0,d1,s0,s1,hv,hn,hX]
  refine ⟨hall,hK _ _ _ (by omega) ⟨by omega,by simp[b9,hkp,h1],by simp[b9,hkp,h2],d8 _ _ _,h4,h5⟩ ⟨?_,.inl ⟨rfl,rfl⟩⟩ ?_⟩
  ·exact .inr ⟨nx,(nx,14),hbn,by omega,rfl,by simp[b9,A5]⟩
  ·intro i k hi a1 a2 a3
   have e1 : ¬ i = nx:=by omega
   rw[m8 a1,m8 a1]
   simp only[b9,e1,if_false,ite_self]
   exact hkp i k (fun q _=>⟨(a3 q).1,(a3 q).2.2⟩)
 ·have hlen:=y0 U
  have htk : (G0 U).take (U.length * 5) = G0 U:=j7 hlen
  simp (disch:=omega) only[go_sem,dq5,h1,h2,h3,h6,d0,d1,s0,s1,hv,hn,hX,i3,htk]
  refine ⟨hall,hK _ _ _ (by omega) ⟨by omega,by simp[b9,hkp,h1],by simp[b9,hkp,h2],d8 _ _ _,h4,h5⟩ ⟨?_,.inl ⟨rfl,rfl⟩⟩ ?_⟩
  ·exact .inr ⟨i,(nx,14),i1,by omega,by rw[List.length_append,List.length_singleton],by simp[b9,W1,A5]⟩
  ·intro i' k hi a1 a2 a3
   have e1 : ¬ i' = nx:=by omega
   have e4 : (i',k) ≠ (i,14):=fun e=>(a3 (by cases e;omega)).2.1 (by cases e;rfl)
   rw[m8 a1,m8 a1,m8 e4]
   simp only[b9,e1,if_false,ite_self]
   exact hkp i' k (fun q _=>⟨(a3 q).1,(a3 q).2.2⟩)
set_option maxRecDepth 20000
def bg3 : Nat→Option (List (Nat × Nat))
 | _=>none
theorem cA4 (X) : d9 (EX md0 X) bg3 1 Tryz.f45 = true := by kernel_rfl
noncomputable def cZ1 (args : List AV) (H : AH) : Option (AV × AH) := if args.length = 1 then av2 (EX md0 XIx) noR 300 bg3 Tryz.f45 args H else none
theorem cA5 (args H v H') (h : cZ1 args H = some (v,H')) : OkR Tryz.prog 45 args H v H' := by
 unfold cZ1 at h
 split at h
 ·rename_i hn
  exact L0 (E:=EX md0 XIx) bL4 (q7 Tryz.prog).1 (q7 Tryz.prog).2 mixed Tryz.func45 (by rw[hn];exact cA4 _) h
 ·cases h
def orN (x i : Int) : Int := orI .i64 x (IntKind.i64.wrap (1 * 2 ^ min i.toNat 64))
theorem bM9 {x i : Int} (h0 : 0≤x) (h1 : x≤31) (h2 : 0≤i) (h3 : i≤4) : 0≤orN x i∧orN x i≤31 := by
 have key : ∀ (a : Fin 32) (b : Fin 5),0≤orN (a.1 : Int) (b.1 : Int)∧orN (a.1 : Int) (b.1 : Int)≤31:=by decide +kernel
 have:=key ⟨x.toNat,by omega⟩ ⟨i.toNat,by omega⟩
 simp only[Int.toNat_of_nonneg h0,Int.toNat_of_nonneg h2] at this
 exact this
def B8 (s : List UInt8) : Nat→Int→Int→Int × Bool × Int
 | 0,a,_=>(0,false,a)
 | m+1,a,out=>if I1 (z7 s a) < 0 then (out,decide (0 < out) && decide (z7 s a = 93),a) else B8 s m (a+1) (orN out (I1 (z7 s a)))
theorem aw6 (c) : I1 c≤4 := by unfold I1;repeat' split;all_goals omega
theorem Stk.at {o : Ob} {nx nx' : Nat} {s at_ at' g d pre vU vJ post} (h : Stk o nx s at_ g d pre vU vJ post) (hn : nx≤nx') : Stk (upd o (2,23) (.row ⟨93,1,(2,23),false,true,[.str s,.int .i64 at',.ref (2,21) g 0 (d+1)]⟩)) nx' s at' g d pre vU vJ post :=
 ⟨by have:=h.lt;omega,by simp[b9,h.cell],d8 _ _ _,by simp[b9,h.lev],h.len,h.le⟩
theorem cg2 {o : Ob} {nx : Nat} {s g d pre vU vJ post} {at_ : Int} {K : AV × AH→Prop} (h : Stk o nx s at_ g d pre vU vJ post) (ha : 0≤at_) (ha' : at_≤s.length) (hs : s.length≤200)
  (hK : ∀ o' nx',nx≤nx'→Stk o' nx' s (B8 s (s.length - at_.toNat) at_ 0).2.2 g d pre vU vJ post→(∀ t,t ≠ (2,23)→t.1 < nx→o' t = o t)→K (.tup [.int .i64 (B8 s (s.length - at_.toNat) at_ 0).1,.bool (B8 s (s.length - at_.toNat) at_ 0).2.1],⟨o',nx'⟩)) :
  wO (Option.map (fun p=>t8 false p.1 p.2) (cZ1 [cO3] ⟨o,nx⟩)) K:=by
 refine O3 (fn:=Tryz.f45) (c:=Tryz.f45.body.getD .skip) rfl ?_
 simp only[Tryz.f45,Option.getD_some]
 simp (disch:=omega) only[go_sem,bg3]
 generalize hR : B8 s (s.length - at_.toNat) at_ 0 = R at hK
 refine o9 (fun m a o1 nx1=>∃ (x out : Int),at_≤x∧x≤s.length∧m = s.length - x.toNat∧nx≤nx1∧a 0 = cO3∧a 4 = .int .i64 out∧0≤out∧out≤31∧Stk o1 nx1 s x g d pre vU vJ post∧(∀ t,t ≠ (2,23)→t.1 < nx→o1 t = o t)∧B8 s (s.length - x.toNat) x out = R) (s.length - at_.toNat) ?_ ?_ ?_
 ·omega
 ·exact ⟨at_,0,by omega,ha',rfl,by omega,rfl,rfl,by omega,by omega,h.keep (by omega) rfl rfl rfl,fun _ _ _=>rfl,hR⟩
 ·rintro m a o1 nx1 ⟨x,out,x1,x2,rfl,hnx,a0,a4,o1',o2',hS,hkp,hR'⟩
  have h2:=hS.par
  by_cases hlt : x < s.length
  ·obtain ⟨c,hc,hbt⟩:=L8 (a:=x) (by omega) (by omega : ¬ (s.length : Int)≤x)
   have hx:=cq7 c
   unfold au5 at hx
   obtain ⟨m',hm'⟩ : ∃ m',s.length - x.toNat = m'+1:=⟨s.length - x.toNat - 1,by omega⟩
   rw[hm',B8,hbt] at hR'
   by_cases hs1 : I1 c.toNat < 0
   ·rw[if_pos hs1] at hR'
    by_cases hs2 : 0 < out
    ·simp (disch:=omega) only[go_sem,bg3,a0,a4,h2,hc,hx,hs1,hs2]
     subst hR'
     have:=hK o1 (nx1+1+1+1+1) (by omega) (hS.keep (by omega) rfl rfl rfl) hkp
     simpa only[hs2,decide_true,Bool.true_and] using this
    ·simp (disch:=omega) only[go_sem,bg3,a0,a4,h2,hc,hx,hs1,hs2]
     subst hR'
     have:=hK o1 (nx1+1+1+1+1) (by omega) (hS.keep (by omega) rfl rfl rfl) hkp
     simpa only[hs2,decide_false,Bool.false_and] using this
   ·rw[if_neg hs1] at hR'
    have hlt4:=aw6 c.toNat
    have hin:=bM9 o1' o2' (by omega : 0≤I1 c.toNat) hlt4
    simp (disch:=omega) only[go_sem,bg3,a0,a4,h2,hc,hx,hs1]
    refine ⟨_,?_,x+1,_,by omega,by omega,rfl,by omega,rfl,hin.1,hin.2,hS.at (by omega),?_,?_⟩
    ·omega
    ·intro t e1 e2
     rw[m8 e1]
     exact hkp t e1 e2
    ·have : s.length - (x+1).toNat = m':=by omega
     rw[this]
     exact hR'
  ·simp (disch:=omega) only[go_sem,bg3,a0,a4,h2]
   have : s.length - x.toNat = 0:=by omega
   rw[this,B8] at hR'
   subst hR'
   exact hK o1 (nx1+1+1) (by omega) (hS.keep (by omega) rfl rfl rfl) hkp
set_option maxRecDepth 20000
abbrev Lvs := List (List Nd × List Nd)
def ab6 : Nd→Int
 | .mk k _ _ _ _=>k
abbrev B2 : Nd := .mk 0 0 0 0 []
def aX7 (k lo hi : Int) (J : List Nd) : List Nd := J.dropLast++[.mk k 0 lo hi [J.getLastD B2]]
def pGo (s : List UInt8) : Nat→Int→List Nd→List Nd→Lvs→Nd × Int × Int
 | 0,at_,_,_,_=>(B2,at_,3)
 | f+1,at_,U,J,B =>
  if (s.length : Int)≤at_ then (if B ≠ [] ∨ J = [] then (B2,at_,3) else (A6 5 (U++[A6 4 J]),0,0))
  else if ab6 (F8 (z7 s at_)) ≠ 0 then pGo s f (at_+1) U (J++[F8 (z7 s at_)]) B
  else if z7 s at_ = 91 then
   let q:=B8 s (s.length - (at_+1).toNat) (at_+1) 0
   if q.2.1 = false then (B2,q.2.2,3) else pGo s f (q.2.2+1) U (J++[.mk 1 q.1 0 0 []]) B
  else if z7 s at_ = 40 then (if B.length+1 > 30 then (B2,at_,4) else pGo s f (at_+1) [] [] ((U,J) :: B))
  else if J = [] then (B2,at_,3)
  else if G5 (z7 s at_) = 9 then
   let q:=y9 s at_
   if 0≤q.2.2 then (B2,q.2.2,3) else pGo s f (at_+5) U (aX7 9 q.1 q.2.1 J) B
  else if G5 (z7 s at_) ≠ 0 then pGo s f (at_+1) U (aX7 (G5 (z7 s at_)) 0 0 J) B
  else if z7 s at_ = 124 then pGo s f (at_+1) (U++[A6 4 J]) [] B
  else if z7 s at_ = 41∧B ≠ [] then pGo s f (at_+1) (B.headD ([],[])).1 ((B.headD ([],[])).2++[A6 5 (U++[A6 4 J])]) B.tail
  else (B2,at_,3)
def v7 (s : List UInt8) : Nd × Int × Int := if 200 < s.length then (B2,0,4) else pGo s (s.length+1) 0 [] [] []
inductive Below (o : Ob) (N : Nat) : Nat→List AV→Lvs→Prop
 | nil (b : Nat) : Below o N b [] []
 | cons (b' b D : Nat) (pre : List AV) (vU vJ : AV) (U J : List Nd) (B : Lvs) : Below o N b' pre B→3≤b'→b'≤b→Lv b' o b D vU vJ U J→D≤N→U.length≤N→J.length≤N→Below o N b (pre++[vU,vJ]) ((U,J) :: B)
theorem Below.keep {o o' : Ob} {N N' b : Nat} {pre : List AV} {B : Lvs} (h : Below o N b pre B) (hN : N≤N') : KeepB b o o'→Below o' N' b pre B := by
 induction h with
 | nil b=>intro _;exact .nil b
 | cons b' b D pre vU vJ U J B h1 h2 h3 h4 h5 h6 h7 ih =>
  intro hk
  exact .cons b' b D pre vU vJ U J B (ih (fun i k e1 e2=>hk i k e1 (by omega))) h2 h3 (h4.keep (by omega) (fun i k e1 e2 _=>hk i k (by omega) e2)) (by omega) (by omega) (by omega)
theorem Below.length {o : Ob} {N b : Nat} {pre : List AV} {B : Lvs} (h : Below o N b pre B) : pre.length = B.length * 2 := by
 induction h with
 | nil b=>rfl
 | cons b' b D pre vU vJ U J B h1 h2 h3 h4 h5 h6 h7 ih=>rw[List.length_append,ih];show _+2 = (_+1) * 2;omega
theorem KeepL.below {b n : Nat} {o o' : Ob} (h : KeepL b n o o') (hn : b≤n) : KeepB b o o' := fun i k h1 h2=>h i k (by omega) (by intro e;cases e;omega) (by intro e;cases e;omega) (by intro;omega)
noncomputable def bP : Code := Tryz.f22.body.getD .skip
noncomputable def xP : Code := u9 [1,0] bP
noncomputable def r1 : Code := u9 [1,0,1,1,1,1,1] bP
noncomputable def r0 : Code := u9 [1,0,1,1,1,1,1,1,1,1,1,1] bP
noncomputable def r2 : Code := u9 [1,0,1,1,1,1,1,1,1,1,1,1,1,1,1,1] bP
theorem fl1 : findLabel xP 1 = some (.seq .skip r1) := by kernel_rfl
theorem fl0 : findLabel xP 0 = some (.seq .skip r0) := by kernel_rfl
theorem fl2 : findLabel xP 2 = some (.seq .skip r2) := by kernel_rfl
theorem bN0 : N2 bL5 := by
 rintro args r r' ⟨c,rfl,rfl⟩ ⟨c',h,rfl⟩
 simp only[List.cons.injEq,AV.int.injEq,and_true,true_and] at h
 rw[h]
theorem bN1 : N2 bL6 := by
 rintro args r r' ⟨c,rfl,rfl⟩ ⟨c',h,rfl⟩
 simp only[List.cons.injEq,AV.int.injEq,and_true,true_and] at h
 rw[h]
theorem bN2 : N2 bM1 := by
 rintro args r r' ⟨s,a,v,_,_,rfl,rfl⟩ ⟨s',a',v',_,_,h,rfl⟩
 simp only[List.cons.injEq,AV.fptr.injEq,AV.str.injEq,AV.int.injEq,and_true,true_and] at h
 rw[h.1,h.2.1]
noncomputable def XPz : FuncId→List AV→Option AV := t7 [(44,D9 bL5),(46,D9 bL6),(50,D9 cf1),(47,D9 bM1)]
theorem cZ2 : s6 Tryz.prog XPz := l8 (l8 (l8 (l8 (t6 _) (n8 cf7)) (n8 bL1)) (n8 cf5)) (n8 cf4)
theorem bN3 (c : UInt8) : XPz 44 [.int .u8 c.toNat] = some (j5 (F8 c.toNat)) := o8 bN0 ⟨c,rfl,rfl⟩
theorem bN4 (c : UInt8) : XPz 46 [.int .u8 c.toNat] = some (.int .i64 (G5 c.toNat)) := o8 bN1 ⟨c,rfl,rfl⟩
theorem bn2 (k : Int) (l : List Nd) (h0 : l ≠ []) (h1 : l.length≤1000) : XPz 50 [.int .i64 k,slN l] = some (j5 (A6 k l)) := o8 bn0 ⟨k,l,h0,h1,rfl,rfl⟩
theorem bN5 (s at_ v) (h0 : 0≤at_) (h1 : at_≤1000) : XPz 47 [.fptr [.str s,.int .i64 at_,v]] = some (.tup [.int .i64 (y9 s at_).1,.int .i64 (y9 s at_).2.1,.int .i64 (y9 s at_).2.2]) := o8 bN2 ⟨s,at_,v,h0,h1,rfl,rfl⟩
noncomputable def crP : v8 := p8 [(42,bK8),(41,cY5),(45,cZ1),(48,cY8),(49,cOr)]
theorem cZ3 : x8 Tryz.prog crP∧Up crP := m9 (m9 (m9 (m9 (m9 (C1 _) cZ0) cA3) cA5) cz9) bf9 (fun _=>aD8)
theorem I2 : crP 42 = bK8 := rfl
theorem bg4 : crP 41 = cY5 := rfl
theorem cA6 : crP 45 = cZ1 := rfl
theorem bN6 : crP 48 = cY8 := rfl
theorem bN7 : crP 49 = cOr := rfl
def nzP : Nat→Option (List (Nat × Nat))
 | 17=>some [(1,5),(4,5)]
 | 18=>some [(0,6),(1,6),(4,6),(0,7)]
 | 39=>some [(1,5),(4,5)]
 | _=>none
theorem dC8 (X) : d9 (EX md0 X) nzP 1 Tryz.f22 = true := by kernel_rfl
structure PS (s : List UInt8) (a : v6) (o : Ob) (nx : Nat) (at_ : Int) (U J : List Nd) (B : Lvs) (g : Tag) (b D : Nat) (pre : List AV) (vU vJ : AV) (post : List AV) : Prop where
 a0 : a 0 = .str s
 a2 : a 2 = .ptr (0,2) (0,2) 0
 a5 : a 5 = .ptr (2,5) (2,5) 0
 a6 : a 6 = .fn (.func 41) [] [.ptr (2,5) (2,5) 0]
 a7 : a 7 = .fn (.func 42) [cO3] []
 o2 : o (0,2) = some (.row ⟨28,1,(0,2),false,true,nd0⟩)
 stk : Stk o nx s at_ g B.length pre vU vJ post
 bel : Below o at_.toNat b pre B
 b3 : 3≤b
 bn : b≤nx
 lv : Lv b o nx D vU vJ U J
 D1 : D≤at_.toNat
 U1 : U.length≤at_.toNat
 J1 : J.length≤at_.toNat
 at0 : 0≤at_
 at1 : at_≤210
def PI (s : List UInt8) (R : Nd × Int × Int) (l m : Nat) (a : v6) (o : Ob) (nx : Nat) : Prop := ∃ at_ U J B g b D pre vU vJ post,PS s a o nx at_ U J B g b D pre vU vJ post ∧
 ((l = 1∧∃ f,m = f+2∧1≤f∧(s.length : Int) - at_ < f∧pGo s f at_ U J B = R) ∨ (l = 0∧m = 1∧(if B ≠ [] ∨ J = [] then (B2,at_,3) else (A6 5 (U++[A6 4 J]),0,0)) = R) ∨ (l = 2∧m = 0∧(B2,at_,3) = R))
def bx5 (R : Nd × Int × Int) (a : v6) (o : Ob) : Prop := a 2 = .ptr (0,2) (0,2) 0∧(∃ cs,o (0,2) = some (.row ⟨28,1,(0,2),false,true,cs⟩)∧cs.length = 5∧∀ (o' : Ob) (e : Nat),cs.map (view o' e) = cNd R.1)∧a 3 = .int .i64 R.2.1∧a 4 = .int .i64 R.2.2
def AOk (s : List UInt8) (a : v6) : Prop := a 0 = .str s∧a 2 = .ptr (0,2) (0,2) 0∧a 5 = .ptr (2,5) (2,5) 0∧a 6 = .fn (.func 41) [] [.ptr (2,5) (2,5) 0]∧a 7 = .fn (.func 42) [cO3] []
theorem PS.same {s a a' o nx nx' at_ U J B g b D pre vU vJ post} (h : PS s a o nx at_ U J B g b D pre vU vJ post) (ha : AOk s a') (hn : nx≤nx') : PS s a' o nx' at_ U J B g b D pre vU vJ post :=
 ⟨ha.1,ha.2.1,ha.2.2.1,ha.2.2.2.1,ha.2.2.2.2,h.o2,h.stk.keep hn rfl rfl rfl,h.bel,h.b3,by have:=h.bn;omega,h.lv.keep hn (fun _ _ _ _ _=>rfl),h.D1,h.U1,h.J1,h.at0,h.at1⟩
theorem KeepL.o2 {b n : Nat} {o o' : Ob} (h : KeepL b n o o') (hb : 3≤b) (hn : b≤n) : o' (0,2) = o (0,2) := h 0 2 (by omega) (by decide) (by decide) (by intro;omega)
theorem PS.next {s : List UInt8} {a' : v6} {o o' : Ob} {nx nx' nx'' N : Nat} {at_ at' : Int} {U J : List Nd} {B : Lvs} {g : Tag} {b D : Nat} {pre : List AV} {vU vJ : AV} {post : List AV} (ha : AOk s a') (ho2 : o (0,2) = some (.row ⟨28,1,(0,2),false,true,nd0⟩))
  (stk : Stk o' nx' s at_ g B.length pre vU vJ post) (bel : Below o N b pre B) (b3 : 3≤b) (bn : b≤nx) (kl : KeepL b nx o o') (hn : nx≤nx') (hn2 : nx'≤nx'') (lv : Lv b o' nx' D vU vJ U J) (hN : N≤at'.toNat) (hD : D≤at'.toNat) (hU : U.length≤at'.toNat) (hJ : J.length≤at'.toNat) (h0 : 0≤at') (h1 : at'≤210) :
  PS s a' (upd o' (2,23) (.row ⟨93,1,(2,23),false,true,[.str s,.int .i64 at',.ref (2,21) g 0 (B.length+1)]⟩)) nx'' at' U J B g b D pre vU vJ post:=by
 refine ⟨ha.1,ha.2.1,ha.2.2.1,ha.2.2.2.1,ha.2.2.2.2,?_,stk.at hn2,bel.keep hN ?_,b3,by omega,lv.keep hn2 (fun i k e1 e2 e3=>?_),hD,hU,hJ,h0,h1⟩
 ·rw[m8 (by decide),kl.o2 b3 bn,ho2]
 ·intro i k e1 e2
  have : (i,k) ≠ (2,23):=by intro e;cases e;omega
  rw[m8 this]
  exact kl.below bn i k e1 e2
 ·exact m8 (by intro e;cases e;omega)
theorem Z6 (s : List UInt8) : ∀ (m : Nat) (a out : Int),a≤(B8 s m a out).2.2∧(B8 s m a out).2.2≤a+m
 | 0,a,out=>by rw[B8];show a≤a∧a≤a+((0 : Nat) : Int);omega
 | m+1,a,out=>by
  rw[B8]
  split
  ·show a≤a∧a≤a+((m+1 : Nat) : Int);omega
  ·have:=Z6 s m (a+1) (orN out (I1 (z7 s a)))
   omega
theorem PS.push {s : List UInt8} {a a' : v6} {o o' : Ob} {nx nx' : Nat} {at_ : Int} {U J : List Nd} {B : Lvs} {g g' : Tag} {b D : Nat} {pre : List AV} {vU vJ : AV} {post : List AV} (h : PS s a o nx at_ U J B g b D pre vU vJ post) (ha : AOk s a') (hn : nx≤nx') (hk : ∀ i k,i < nx→(i,k) ≠ (2,21)→(i,k) ≠ (2,23)→o' (i,k) = o (i,k)) (h1 : at_+1≤210)
  (stk : Stk o' nx' s (at_+1) g' (B.length+1) (pre++[vU,vJ]) .nil .nil []) : PS s a' o' nx' (at_+1) [] [] ((U,J) :: B) g' nx 0 (pre++[vU,vJ]) .nil .nil []:=by
 obtain ⟨_,_,_,_,_,o2,stk0,bel,b3,bn,lv,D1,U1,J1,at0,at1⟩:=h
 refine ⟨ha.1,ha.2.1,ha.2.2.1,ha.2.2.2.1,ha.2.2.2.2,?_,stk,.cons b nx D pre vU vJ U J B (bel.keep (by omega) (fun i k e1 e2=>hk i k (by omega) (by intro e;cases e;omega) (by intro e;cases e;omega))) b3 bn (lv.keep (by omega) (fun i k e1 e2 e3=>hk i k e2 (by intro e;cases e;omega) (by intro e;cases e;omega))) (by omega) (by omega) (by omega),by omega,hn,⟨.inl ⟨rfl,rfl⟩,.inl ⟨rfl,rfl⟩⟩,by omega,by simp,by simp,by omega,h1⟩
 rw[hk 0 2 (by omega) (by decide) (by decide),o2]
theorem Lv.viewU {b : Nat} {o : Ob} {nx D : Nat} {vU vJ : AV} {U J : List Nd} (h : Lv b o nx D vU vJ U J) (hU : U ≠ []) : A.view o 1012 vU = slN U := by
 rcases h.u with ⟨_,e⟩ | ⟨i,gu,i1,i2,rfl,i3⟩
 ·exact absurd e hU
 have hl:=y0 U
 have htk : (G0 U).take (U.length * 5) = G0 U:=j7 hl
 have hv:=Z2 o 1011 U
 simp (disch:=omega) only[go_sem,i3,hl,htk,hv]
theorem Lv.tagsU {b : Nat} {o : Ob} {nx D : Nat} {vU vJ : AV} {U J : List Nd} (h : Lv b o nx D vU vJ U J) (t : Tag) (ht : t ∈ d5 o 1012 vU) : t.2 = 14∧b≤t.1∧t.1 < nx := by
 rcases h.u with ⟨rfl,e⟩ | ⟨i,gu,i1,i2,rfl,i3⟩
 ·simp[d5] at ht
 have hl:=y0 U
 have htk : (G0 U).take (U.length * 5) = G0 U:=j7 hl
 simp (disch:=omega) only[go_sem,i3,htk] at ht
 simp only[List.drop_zero,htk,bG2,List.mem_singleton] at ht
 subst ht
 exact ⟨rfl,i1,i2⟩
theorem am9 (o' : Ob) (e : Nat) : nd0.map (view o' e) = cNd B2 := by
 rw[n7,slN,r8]
 cases e <;> rfl
set_option maxHeartbeats 4000000 in
theorem dT3 {s : List UInt8} {R : Nd × Int × Int} (hs : s.length≤200) {f : Nat} {a : v6} {o : Ob} {nx : Nat} {at_ U J B g b D pre vU vJ post} (h : PS s a o nx at_ U J B g b D pre vU vJ post) (hf1 : 1≤f) (hf : (s.length : Int) - at_ < f) (hR : pGo s f at_ U J B = R) {Q : s8}
  (q1 : ∀ a o nx m',m' < f+2→PI s R 1 m' a o nx→Q (.goto 1) a o nx) (q0 : ∀ a o nx m',m' < f+2→PI s R 0 m' a o nx→Q (.goto 0) a o nx) (q2 : ∀ a o nx m',m' < f+2→PI s R 2 m' a o nx→Q (.goto 2) a o nx) (qr : ∀ a o nx,bx5 R a o→Q .ret a o nx) {k : Nat} :
  WP (EX md0 XPz) crP k nzP r1 a o nx Q:=by
 have hps:=h
 obtain ⟨a0,a2,a5,a6,a7,o2,stk,bel,b3,bn,lv,D1,U1,J1,at0,at1⟩:=h
 have hcell:=stk.cell
 have hpar:=stk.par
 have hlev:=stk.lev
 have hpre:=stk.len
 have hle:=stk.le
 obtain ⟨f,rfl⟩ : ∃ f',f = f'+1:=⟨f - 1,by omega⟩
 simp only[r1,bP,u9,Tryz.f22,Option.getD_some]
 by_cases c1 : (s.length : Int)≤at_
 ·rw[pGo,if_pos c1] at hR
  simp (disch:=omega) only[go_sem,nzP,a0,a2,a5,a6,a7,o2,hcell,hpar,hlev,c1]
  exact q0 _ _ _ 1 (by omega) ⟨_,_,_,_,_,_,_,_,_,_,_,hps.same (by unfold AOk;simp (disch:=omega) only[go_sem,a0,a2,a5,a6,a7]) (by omega),.inr (.inl ⟨rfl,rfl,hR⟩)⟩
 obtain ⟨c,hc,hb⟩:=L8 at0 c1
 have hpl:=bN3 c
 have haf:=bN4 c
 rw[pGo,if_neg c1,hb] at hR
 have hk1 : ∀ n : Nd,N4 false 1 (cNd n) = some (.int .i64 (ab6 n)):=fun n=>by cases n;rw[n7];rfl
 by_cases c2 : ab6 (F8 c.toNat) = 0
 ·rw[if_neg (fun e=>e c2)] at hR
  by_cases c3 : (c.toNat : Int) = 91
  ·rw[if_pos c3] at hR
   rw[c3] at hpl c2
   simp (disch:=omega) only[go_sem,nzP,a0,a2,a5,a6,a7,o2,hcell,hpar,hlev,c1,hc,hpl,hk1,c2,c3,cA6]
   have hst : ∀ n,nx≤n→Stk (upd o (2,23) (.row ⟨93,1,(2,23),false,true,[.str s,.int .i64 (at_+1),.ref (2,21) g 0 (B.length+1)]⟩)) n s (at_+1) g B.length pre vU vJ post:=fun n hn=>stk.at hn
   have hq:=Z6 s (s.length - (at_+1).toNat) (at_+1) 0
   refine cg2 (hst _ ?_) (by omega) (by omega) hs (fun o' nx' e1 e2 e3=>?_)
   ·omega
   generalize B8 s (s.length - (at_+1).toNat) (at_+1) 0 = q at *
   obtain ⟨q1',q2',q3'⟩:=q
   have hkl : KeepL b nx o o':=fun i k hi b1 b2 b3=>by rw[e3 _ b2 (by show i < _;omega),m8 b2]
   have lv' : Lv b o' nx' D vU vJ U J:=lv.keep (by omega) (fun i k f1 f2 f3=>by rw[e3 _ (by intro e;cases e;omega) (by show i < _;omega),m8 (by intro e;cases e;omega)])
   have hcell':=e2.cell
   have hpar':=e2.par
   have o2':=(hkl.o2 b3 bn).trans o2
   simp only at hR e2 hpar' hq
   cases q2' with
   | false =>
    simp (disch:=omega) only[go_sem,nzP,a0,a2,a5,a6,a7,hcell',hpar',c3]
    rw[if_pos rfl] at hR
    exact q2 _ _ _ 0 (by omega) ⟨_,U,J,B,g,b,D,pre,vU,vJ,post,⟨by simp (disch:=omega) only[go_sem,a0],by simp (disch:=omega) only[go_sem,a2],by simp (disch:=omega) only[go_sem,a5],by simp (disch:=omega) only[go_sem,a6],by simp (disch:=omega) only[go_sem,a7],o2',e2.keep (by omega) rfl rfl rfl,bel.keep (by omega) (hkl.below bn),b3,by omega,lv'.keep (by omega) (fun _ _ _ _ _=>rfl),by omega,by omega,by omega,by omega,by omega⟩,.inr (.inr ⟨rfl,rfl,hR⟩)⟩
   | true =>
    simp (disch:=omega) only[go_sem,nzP,a0,a2,a5,a6,a7,hcell',hpar',bg4,c3]
    rw[if_neg (by decide)] at hR
    refine aP1 (.leaf D 1 q1' 0 0) (e2.keep (by omega) rfl rfl rfl) (lv'.keep (by omega) (fun _ _ _ _ _=>rfl)) b3 (by omega) (by omega) (fun o3 nx3 vJ3 f1 f2 f3 f4=>?_)
    have hcell3:=f2.cell
    have hpar3:=f2.par
    simp (disch:=omega) only[go_sem,nzP,a0,a2,a5,a6,a7,hcell3,hpar3]
    exact q1 _ _ _ (f+2) (by omega) ⟨_,_,_,_,_,_,_,_,_,_,_,PS.next (by unfold AOk;simp (disch:=omega) only[go_sem,a0,a2,a5,a6,a7]) o2 f2 bel b3 bn (fun i k hi b1 b2 b3=>(f4 i k (by omega) b1 b2 b3).trans (hkl i k hi b1 b2 b3)) (by omega) (by omega) f3 (N:=at_.toNat) (by omega) (by omega) (by omega) (by rw[List.length_append,List.length_singleton];omega) (by omega) (by omega),.inl ⟨rfl,f,rfl,by omega,by omega,hR⟩⟩
  rw[if_neg c3] at hR
  by_cases c4 : (c.toNat : Int) = 40
  ·rw[if_pos c4] at hR
   rw[c4] at hpl c2
   by_cases c5 : B.length+1 > 30
   ·rw[if_pos c5] at hR
    simp (disch:=omega) only[go_sem,nzP,a0,a2,a5,a6,a7,o2,hcell,hpar,hlev,c1,hc,hpl,hk1,c2,c4,c5]
    subst hR
    exact qr _ _ _ ⟨by simp (disch:=omega) only[go_sem,a2],⟨nd0,by simp (disch:=omega) only[go_sem],rfl,am9⟩,by simp (disch:=omega) only[go_sem],by simp (disch:=omega) only[go_sem]⟩
   ·rw[if_neg c5] at hR
    have htk : (pre++vU :: vJ :: post).take ((B.length+1) * 2) = pre++[vU,vJ]:=by
     have : pre++vU :: vJ :: post = (pre++[vU,vJ])++post:=by simp
     rw[this]
     exact List.take_left' (by rw[List.length_append,hpre];show _+2 = _;omega)
    simp (disch:=omega) only[go_sem,nzP,a0,a2,a5,a6,a7,o2,hcell,hpar,hlev,c1,hc,hpl,hk1,c2,c4,c5,htk]
    refine q1 _ _ _ (f+2) (by omega) ⟨_,_,_,_,_,_,_,_,_,_,_,hps.push (a':=_) (g':=(nx+1+1+1+1+1+1,91)) (by unfold AOk;simp (disch:=omega) only[go_sem,a0,a2,a5,a6,a7]) (nx':=_) (by omega) (fun i k hi b1 b2=>?_) (by omega) ⟨by omega,by simp[b9,hcell],d8 _ _ _,?_,by rw[List.length_append,hpre];show _+2 = _;omega,by omega⟩,.inl ⟨rfl,f,rfl,by omega,by omega,hR⟩⟩
    ·have e1 : ¬ i = nx+1+1+1+1+1+1:=by omega
     rw[m8 b2,m8 b2,m8 b1]
     simp[b9,e1]
    ·simp[b9]
  rw[if_neg c4] at hR
  have d0 : ∀ x y : AV,(pre++x :: y :: post).drop (B.length * 2) = x :: y :: post:=fun x y=>ar4 hpre
  have d1 : ∀ x y : AV,(pre++x :: y :: post).drop (B.length * 2+1) = y :: post:=fun x y=>aj6 hpre
  have h6 : ∀ x y : AV,(pre++x :: y :: post).length = B.length * 2+(post.length+2):=fun x y=>by rw[List.length_append,hpre];rfl
  by_cases c6 : J = []
  ·rw[if_pos c6] at hR
   have hvJ : vJ = .nil ∨ ∃ i gj,vJ = .ref (i,11) gj 0 0:=by
    rcases lv.j with ⟨e,_⟩ | ⟨i,gj,cs,_,_,e,_,_⟩
    ·exact .inl e
    ·exact .inr ⟨i,gj,by rw[e,c6];rfl⟩
   simp (disch:=omega) only[go_sem,nzP,a0,a2,a5,a6,a7,o2,hcell,hpar,hlev,c1,hc,hpl,hk1,c2,c3,c4,I2]
   refine F4 (stk.keep (by omega) rfl rfl rfl) ?_
   rcases hvJ with rfl | ⟨i,gj,rfl⟩
   ·simp (disch:=omega) only[go_sem,nzP,a0,a2,a5,a6,a7,o2,hcell,hpar,hlev,d0,d1,h6]
    exact q2 _ _ _ 0 (by omega) ⟨_,_,_,_,_,_,_,_,_,_,_,hps.same (by unfold AOk;simp (disch:=omega) only[go_sem,a0,a2,a5,a6,a7]) (by omega),.inr (.inr ⟨rfl,rfl,hR⟩)⟩
   ·simp (disch:=omega) only[go_sem,nzP,a0,a2,a5,a6,a7,o2,hcell,hpar,hlev,d0,d1,h6]
    exact q2 _ _ _ 0 (by omega) ⟨_,_,_,_,_,_,_,_,_,_,_,hps.same (by unfold AOk;simp (disch:=omega) only[go_sem,a0,a2,a5,a6,a7]) (by omega),.inr (.inr ⟨rfl,rfl,hR⟩)⟩
  rw[if_neg c6] at hR
  have hJl : ¬ J.length = 0:=fun e=>c6 (List.length_eq_zero_iff.1 e)
  obtain ⟨i,gj,rfl⟩ : ∃ i gj,vJ = .ref (i,11) gj 0 J.length:=by
   rcases lv.j with ⟨_,e⟩ | ⟨i,gj,cs,_,_,e,_,_⟩
   ·exact absurd e c6
   ·exact ⟨i,gj,e⟩
  have hti : ∀ v,XPz 47 [.fptr [.str s,.int .i64 at_,v]] = some (.tup [.int .i64 (y9 s at_).1,.int .i64 (y9 s at_).2.1,.int .i64 (y9 s at_).2.2]):=fun v=>bN5 s at_ v at0 (by omega)
  obtain ⟨J0,x,hJx⟩ : ∃ J0 x,J = J0++[x]:=⟨J.dropLast,J.getLast c6,(List.dropLast_concat_getLast c6).symm⟩
  have hlast : ∀ k lo hi,aX7 k lo hi J = J0++[.mk k 0 lo hi [x]]:=fun k lo hi=>by rw[aX7,hJx];simp
  have hJ0 : J.length = J0.length+1:=by rw[hJx];simp
  have lv2 : Lv b o nx D vU (.ref (i,11) gj 0 J.length) U (J0++[x]):=by rw[← hJx];exact lv
  by_cases c7 : G5 c.toNat = 9
  ·rw[if_pos c7] at hR
   simp (disch:=omega) only[go_sem,nzP,a0,a2,a5,a6,a7,o2,hcell,hpar,hlev,c1,hc,hpl,hk1,c2,c3,c4,I2]
   refine F4 (stk.keep (by omega) rfl rfl rfl) ?_
   simp (disch:=omega) only[go_sem,nzP,a0,a2,a5,a6,a7,o2,hcell,hpar,hlev,d0,d1,h6,hJl,haf,c7,hti]
   generalize y9 s at_ = q at *
   obtain ⟨lo,hi,wr⟩:=q
   simp only at hR
   by_cases c8 : 0≤wr
   ·rw[if_pos c8] at hR
    simp (disch:=omega) only[go_sem,nzP,a0,a2,a5,a6,a7,o2,hcell,hpar,hlev,c8]
    subst hR
    exact qr _ _ _ ⟨by simp (disch:=omega) only[go_sem,a2],⟨nd0,by simp (disch:=omega) only[go_sem],rfl,am9⟩,by simp (disch:=omega) only[go_sem],by simp (disch:=omega) only[go_sem]⟩
   ·rw[if_neg c8,hlast] at hR
    simp (disch:=omega) only[go_sem,nzP,a0,a2,a5,a6,a7,o2,hcell,hpar,hlev,c8,bN6]
    refine bm9 9 lo hi x (stk.keep (by omega) rfl rfl rfl) (lv2.keep (by omega) (fun _ _ _ _ _=>rfl)) b3 (by omega) (by omega) (fun o' nx' vJ' e1 e2 e3 e4=>?_)
    have hcell':=e2.cell
    have hpar':=e2.par
    simp (disch:=omega) only[go_sem,nzP,a0,a2,a5,a6,a7,hcell',hpar']
    refine q1 _ _ _ (f+2) (by omega) ⟨_,_,_,_,_,_,_,_,_,_,_,PS.next (o':=upd o' (2,23) _) (nx':=nx') (by unfold AOk;simp (disch:=omega) only[go_sem,a0,a2,a5,a6,a7]) o2 (e2.at (by omega)) bel b3 bn (fun i k hi b1 b2 b3=>(m8 b2).trans (e4 i k (by omega) b1 b2 b3)) (by omega) (by omega) (e3.keep (by omega) (fun i k e1 e2 e3=>m8 (by intro e;cases e;omega))) (N:=at_.toNat) (by omega) (by omega) (by omega) (by rw[List.length_append,List.length_singleton];omega) (by omega) (by omega),.inl ⟨rfl,f,rfl,by omega,by omega,?_⟩⟩
    have e45 : at_+4+1 = at_+5:=by omega
    rw[e45]
    exact hR
  rw[if_neg c7] at hR
  by_cases c8 : G5 c.toNat = 0
  ·rw[if_neg (fun e=>e c8)] at hR
   by_cases c9 : (c.toNat : Int) = 124
   ·rw[if_pos c9] at hR
    rw[c9] at hpl c2 haf c8
    simp (disch:=omega) only[go_sem,nzP,a0,a2,a5,a6,a7,o2,hcell,hpar,hlev,c1,hc,hpl,hk1,c2,c9,I2]
    refine F4 (stk.keep (by omega) rfl rfl rfl) ?_
    simp (disch:=omega) only[go_sem,nzP,a0,a2,a5,a6,a7,o2,hcell,hpar,hlev,d0,d1,h6,hJl,haf,c8,I2]
    refine F4 (stk.keep (by omega) rfl rfl rfl) ?_
    simp (disch:=omega) only[go_sem,nzP,a0,a2,a5,a6,a7,o2,hcell,hpar,hlev,d0,d1,h6,hJl,haf,c8,bN7]
    refine bg2 (stk.keep (by omega) rfl rfl rfl) (lv.keep (by omega) (fun _ _ _ _ _=>rfl)) b3 (by omega) (by omega) c6 (by omega) (by omega) (fun o' nx' vU' e1 e2 e3 e4=>?_)
    have hcell':=e2.cell
    have hpar':=e2.par
    simp (disch:=omega) only[go_sem,nzP,a0,a2,a5,a6,a7,hcell',hpar']
    exact q1 _ _ _ (f+2) (by omega) ⟨_,_,_,_,_,_,_,_,_,_,_,PS.next (by unfold AOk;simp (disch:=omega) only[go_sem,a0,a2,a5,a6,a7]) o2 e2 bel b3 bn (fun i k hi=>e4 i k (by omega)) (by omega) (by omega) e3 (N:=at_.toNat) (by omega) (by omega) (by rw[List.length_append,List.length_singleton];omega) (by simp) (by omega) (by omega),.inl ⟨rfl,f,rfl,by omega,by omega,hR⟩⟩
   rw[if_neg c9] at hR
   by_cases c10 : (c.toNat : Int) = 41
   ·rw[c10] at hpl c2 haf c8
    by_cases c11 : B = []
    ·rw[if_neg (fun e=>e.2 c11)] at hR
     have hBl : B.length = 0:=by rw[c11];rfl
     simp (disch:=omega) only[go_sem,nzP,a0,a2,a5,a6,a7,o2,hcell,hpar,hlev,c1,hc,hpl,hk1,c2,c10,I2]
     refine F4 (stk.keep (by omega) rfl rfl rfl) ?_
     simp (disch:=omega) only[go_sem,nzP,a0,a2,a5,a6,a7,o2,hcell,hpar,hlev,d0,d1,h6,hJl,haf,c8,I2]
     exact q2 _ _ _ 0 (by omega) ⟨_,_,_,_,_,_,_,_,_,_,_,hps.same (by unfold AOk;simp (disch:=omega) only[go_sem,a0,a2,a5,a6,a7]) (by omega),.inr (.inr ⟨rfl,rfl,hR⟩)⟩
    ·rw[if_pos ⟨c10,c11⟩] at hR
     obtain ⟨⟨U',J'⟩,B',hB⟩ : ∃ p B',B = p :: B':=by
      cases B with
      | nil=>exact absurd rfl c11
      | cons p B'=>exact ⟨p,B',rfl⟩
     have hBl : B.length = B'.length+1:=by rw[hB];rfl
     simp (disch:=omega) only[go_sem,nzP,a0,a2,a5,a6,a7,o2,hcell,hpar,hlev,c1,hc,hpl,hk1,c2,c10,I2]
     refine F4 (stk.keep (by omega) rfl rfl rfl) ?_
     simp (disch:=omega) only[go_sem,nzP,a0,a2,a5,a6,a7,o2,hcell,hpar,hlev,d0,d1,h6,hJl,haf,c8,I2]
     refine F4 (stk.keep (by omega) rfl rfl rfl) ?_
     simp (disch:=omega) only[go_sem,nzP,a0,a2,a5,a6,a7,o2,hcell,hpar,hlev,d0,d1,h6,hJl,haf,c8,bN7]
     refine bg2 (stk.keep (by omega) rfl rfl rfl) (lv.keep (by omega) (fun _ _ _ _ _=>rfl)) b3 (by omega) (by omega) c6 (by omega) (by omega) (fun o1 nx1 vU1 e1 e2 e3 e4=>?_)
     have hcell1:=e2.cell
     have hpar1:=e2.par
     have hlev1:=e2.lev
     simp (disch:=omega) only[go_sem,nzP,a0,a2,a5,a6,a7,hcell1,hpar1,hlev1,I2]
     refine F4 (e2.keep (by omega) rfl rfl rfl) ?_
     have hne : U++[A6 4 J] ≠ []:=by simp
     have hUl : (U++[A6 4 J]).length≤1000:=by rw[List.length_append,List.length_singleton];omega
     have hv:=e3.viewU hne
     have ht:=e3.tagsU
     have hX:=bn2 5 (U++[A6 4 J]) hne hUl
     generalize U++[A6 4 J] = W at *
     have hn : ∀ i k,k ≠ 14→nin (i,k) (d5 o1 1012 vU1) = true:=fun i k e1=>bn1 (fun hm=>e1 (ht _ hm).1)
     simp (disch:=omega) only[go_sem,nzP,a0,a2,a5,a6,a7,hcell1,hpar1,hlev1,d0,d1,h6,hv,hX,hn,bg4]
     rw[hB] at hR bel
     simp only[List.headD_cons,List.tail_cons] at hR
     cases bel with
     | cons b' _ D' pre' vU' vJ' _ _ _ g1 g2 g3 g4 g5 g6 g7 =>
     have hsl : ∀ i k,(b≤i→k ≠ 14)→I7 (d5 o1 1012 vU1) o1 (i,k) = o1 (i,k):=fun i k hk=>N9 (fun hm=>by
      obtain ⟨e1,e2,_⟩:=ht _ hm
      exact hk e2 e1)
     have hk5 : ∀ (y1 y2 y3 : AObj) i k,i < nx→(i,k) ≠ (2,21)→(i,k) ≠ (2,23)→(b≤i→k ≠ 11∧k ≠ 14∧k ≠ 19)→upd (upd (upd (I7 (d5 o1 1012 vU1) o1) (nx1,14) y1) (nx1,14) y2) (2,23) y3 (i,k) = o (i,k):=fun y1 y2 y3 i k hi n1 n2 n3=>by
      have e5 : ¬ i = nx1:=by omega
      rw[m8 n2]
      simp only[b9,e5,if_false,ite_self]
      rw[hsl i k (fun q=>(n3 q).2.1)]
      exact e4 i k (by omega) n1 n2 n3
     have hlen' : pre'.length = B'.length * 2:=g1.length
     refine aP1 (s:=s) (at_:=at_) (g:=g) (d:=B'.length) (pre:=pre') (vU:=vU') (vJ:=vJ') (post:=vU1 :: .nil :: post) (b:=b') (U:=U') (J:=J') (.data D' (A6 5 W)) ⟨by omega,?_,?_,?_,hlen',by omega⟩ (g4.keep (by omega) (fun i k w1 w2 w3=>hk5 _ _ _ i k (by omega) (by intro e;cases e;omega) (by intro e;cases e;omega) (by intro;omega))) g2 (by omega) (by omega) (fun o6 nx6 vJ6 f1 f2 f3 f4=>?_)
     ·rw[m8 (by decide)]
      have e5 : ¬ 2 = nx1:=by omega
      simp only[b9,e5,if_false,ite_self]
      rw[hsl 2 5 (by intro;decide)]
      exact hcell1
     ·rw[d8,hBl]
      rfl
     ·rw[m8 (by decide)]
      have e5 : ¬ 2 = nx1:=by omega
      simp only[b9,e5,if_false,ite_self]
      rw[hsl 2 21 (by intro;decide),hlev1]
      simp
     have hcell6:=f2.cell
     have hpar6:=f2.par
     simp (disch:=omega) only[go_sem,nzP,a0,a2,a5,a6,a7,hcell6,hpar6]
     exact q1 _ _ _ (f+2) (by omega) ⟨_,_,_,_,_,_,_,_,_,_,_,PS.next (o:=o) (nx:=nx) (by unfold AOk;simp (disch:=omega) only[go_sem,a0,a2,a5,a6,a7]) o2 f2 g1 g2 (by omega) (fun i k hi b1 b2 b3=>(f4 i k (by omega) b1 b2 b3).trans (hk5 _ _ _ i k hi b1 b2 (fun q=>b3 (by omega)))) (by omega) (by omega) f3 (N:=at_.toNat) (by omega) (by omega) (by omega) (by rw[List.length_append,List.length_singleton];omega) (by omega) (by omega),.inl ⟨rfl,f,rfl,by omega,by omega,hR⟩⟩
   ·rw[if_neg (fun e=>c10 e.1)] at hR
    simp (disch:=omega) only[go_sem,nzP,a0,a2,a5,a6,a7,o2,hcell,hpar,hlev,c1,hc,hpl,hk1,c2,c3,c4,I2]
    refine F4 (stk.keep (by omega) rfl rfl rfl) ?_
    simp (disch:=omega) only[go_sem,nzP,a0,a2,a5,a6,a7,o2,hcell,hpar,hlev,d0,d1,h6,hJl,haf,c8,c9,c10,I2]
    exact q2 _ _ _ 0 (by omega) ⟨_,_,_,_,_,_,_,_,_,_,_,hps.same (by unfold AOk;simp (disch:=omega) only[go_sem,a0,a2,a5,a6,a7]) (by omega),.inr (.inr ⟨rfl,rfl,hR⟩)⟩
  ·rw[if_pos c8,hlast] at hR
   simp (disch:=omega) only[go_sem,nzP,a0,a2,a5,a6,a7,o2,hcell,hpar,hlev,c1,hc,hpl,hk1,c2,c3,c4,I2]
   refine F4 (stk.keep (by omega) rfl rfl rfl) ?_
   simp (disch:=omega) only[go_sem,nzP,a0,a2,a5,a6,a7,o2,hcell,hpar,hlev,d0,d1,h6,hJl,haf,c7,c8,bN6]
   refine bm9 (G5 c.toNat) 0 0 x (stk.keep (by omega) rfl rfl rfl) (lv2.keep (by omega) (fun _ _ _ _ _=>rfl)) b3 (by omega) (by omega) (fun o' nx' vJ' e1 e2 e3 e4=>?_)
   have hcell':=e2.cell
   have hpar':=e2.par
   simp (disch:=omega) only[go_sem,nzP,a0,a2,a5,a6,a7,hcell',hpar']
   exact q1 _ _ _ (f+2) (by omega) ⟨_,_,_,_,_,_,_,_,_,_,_,PS.next (by unfold AOk;simp (disch:=omega) only[go_sem,a0,a2,a5,a6,a7]) o2 e2 bel b3 bn (fun i k hi=>e4 i k (by omega)) (by omega) (by omega) e3 (N:=at_.toNat) (by omega) (by omega) (by omega) (by rw[List.length_append,List.length_singleton];omega) (by omega) (by omega),.inl ⟨rfl,f,rfl,by omega,by omega,hR⟩⟩
 ·rw[if_pos c2] at hR
  simp (disch:=omega) only[go_sem,nzP,a0,a2,a5,a6,a7,o2,hcell,hpar,hlev,c1,hc,hpl,hk1,c2,bg4]
  refine aP1 (.data D (F8 c.toNat)) (stk.keep (by omega) rfl rfl rfl) (lv.keep (by omega) (fun _ _ _ _ _=>rfl)) b3 (by omega) (by omega) (fun o' nx' vJ' e1 e2 e3 e4=>?_)
  have hcell':=e2.cell
  have hpar':=e2.par
  simp (disch:=omega) only[go_sem,nzP,a0,a2,a5,a6,a7,hcell',hpar']
  exact q1 _ _ _ (f+2) (by omega) ⟨_,_,_,_,_,_,_,_,_,_,_,PS.next (by unfold AOk;simp (disch:=omega) only[go_sem,a0,a2,a5,a6,a7]) o2 e2 bel b3 bn (fun i k hi=>e4 i k (by omega)) (by omega) (by omega) e3 (N:=at_.toNat) (by omega) (by omega) (by omega) (by rw[List.length_append,List.length_singleton];omega) (by omega) (by omega),.inl ⟨rfl,f,rfl,by omega,by omega,hR⟩⟩
set_option maxRecDepth 20000
theorem ec4 {s : List UInt8} {R : Nd × Int × Int} {a : v6} {o : Ob} {nx : Nat} {at_ U J B g b D pre vU vJ post} (h : PS s a o nx at_ U J B g b D pre vU vJ post) (hR : (B2,at_,3) = R) {Q : s8} (qr : ∀ a o nx,bx5 R a o→Q .ret a o nx) {k : Nat} :
  WP (EX md0 XPz) crP k nzP r2 a o nx Q:=by
 obtain ⟨a0,a2,a5,a6,a7,o2,stk,bel,b3,bn,lv,D1,U1,J1,at0,at1⟩:=h
 have hcell:=stk.cell
 have hpar:=stk.par
 simp only[r2,bP,u9,Tryz.f22,Option.getD_some]
 simp (disch:=omega) only[go_sem,nzP,a0,a2,a5,a6,a7,o2,hcell,hpar]
 subst hR
 exact qr _ _ _ ⟨by simp (disch:=omega) only[go_sem,a2],⟨nd0,by simp (disch:=omega) only[go_sem],rfl,am9⟩,by simp (disch:=omega) only[go_sem],by simp (disch:=omega) only[go_sem]⟩
theorem ec5 {s : List UInt8} {R : Nd × Int × Int} {a : v6} {o : Ob} {nx : Nat} {at_ U J B g b D pre vU vJ post} (h : PS s a o nx at_ U J B g b D pre vU vJ post) (hR : (if B ≠ [] ∨ J = [] then (B2,at_,3) else (A6 5 (U++[A6 4 J]),0,0)) = R) {Q : s8}
  (q2 : ∀ a o nx,PI s R 2 0 a o nx→Q (.goto 2) a o nx) (qr : ∀ a o nx,bx5 R a o→Q .ret a o nx) {k : Nat} :
  WP (EX md0 XPz) crP k nzP r0 a o nx Q:=by
 have hps:=h
 obtain ⟨a0,a2,a5,a6,a7,o2,stk,bel,b3,bn,lv,D1,U1,J1,at0,at1⟩:=h
 have hcell:=stk.cell
 have hpar:=stk.par
 have hlev:=stk.lev
 have hpre:=stk.len
 have hle:=stk.le
 have d0 : ∀ x y : AV,(pre++x :: y :: post).drop (B.length * 2) = x :: y :: post:=fun x y=>ar4 hpre
 have d1 : ∀ x y : AV,(pre++x :: y :: post).drop (B.length * 2+1) = y :: post:=fun x y=>aj6 hpre
 have h6 : ∀ x y : AV,(pre++x :: y :: post).length = B.length * 2+(post.length+2):=fun x y=>by rw[List.length_append,hpre];rfl
 simp only[r0,bP,u9,Tryz.f22,Option.getD_some]
 by_cases c1 : B = []
 ·have hBl : B.length = 0:=by rw[c1];rfl
  by_cases c2 : J = []
  ·rw[if_pos (.inr c2)] at hR
   have hvJ : vJ = .nil ∨ ∃ i gj,vJ = .ref (i,11) gj 0 0:=by
    rcases lv.j with ⟨e,_⟩ | ⟨i,gj,cs,_,_,e,_,_⟩
    ·exact .inl e
    ·exact .inr ⟨i,gj,by rw[e,c2];rfl⟩
   simp (disch:=omega) only[go_sem,nzP,a0,a2,a5,a6,a7,o2,hcell,hpar,hlev,I2]
   refine F4 (stk.keep (by omega) rfl rfl rfl) ?_
   rcases hvJ with rfl | ⟨i,gj,rfl⟩
   ·simp (disch:=omega) only[go_sem,nzP,a0,a2,a5,a6,a7,o2,hcell,hpar,hlev,d0,d1,h6]
    exact q2 _ _ _ ⟨_,_,_,_,_,_,_,_,_,_,_,hps.same (by unfold AOk;simp (disch:=omega) only[go_sem,a0,a2,a5,a6,a7]) (by omega),.inr (.inr ⟨rfl,rfl,hR⟩)⟩
   ·simp (disch:=omega) only[go_sem,nzP,a0,a2,a5,a6,a7,o2,hcell,hpar,hlev,d0,d1,h6]
    exact q2 _ _ _ ⟨_,_,_,_,_,_,_,_,_,_,_,hps.same (by unfold AOk;simp (disch:=omega) only[go_sem,a0,a2,a5,a6,a7]) (by omega),.inr (.inr ⟨rfl,rfl,hR⟩)⟩
  ·rw[if_neg (by simp[c1,c2])] at hR
   have hJl : ¬ J.length = 0:=fun e=>c2 (List.length_eq_zero_iff.1 e)
   obtain ⟨i,gj,rfl⟩ : ∃ i gj,vJ = .ref (i,11) gj 0 J.length:=by
    rcases lv.j with ⟨_,e⟩ | ⟨i,gj,cs,_,_,e,_,_⟩
    ·exact absurd e c2
    ·exact ⟨i,gj,e⟩
   simp (disch:=omega) only[go_sem,nzP,a0,a2,a5,a6,a7,o2,hcell,hpar,hlev,I2]
   refine F4 (stk.keep (by omega) rfl rfl rfl) ?_
   simp (disch:=omega) only[go_sem,nzP,a0,a2,a5,a6,a7,o2,hcell,hpar,hlev,d0,d1,h6,hJl,I2]
   refine F4 (stk.keep (by omega) rfl rfl rfl) ?_
   simp (disch:=omega) only[go_sem,nzP,a0,a2,a5,a6,a7,o2,hcell,hpar,hlev,d0,d1,h6,hJl,bN7]
   refine bg2 (stk.keep (by omega) rfl rfl rfl) (lv.keep (by omega) (fun _ _ _ _ _=>rfl)) b3 (by omega) (by omega) c2 (by omega) (by omega) (fun o1 nx1 vU1 e1 e2 e3 e4=>?_)
   have hcell1:=e2.cell
   have hpar1:=e2.par
   have hlev1:=e2.lev
   have o21:=(e4.o2 b3 (by omega)).trans o2
   simp (disch:=omega) only[go_sem,nzP,a0,a2,a5,a6,a7,hcell1,hpar1,hlev1,I2]
   refine F4 (e2.keep (by omega) rfl rfl rfl) ?_
   have hne : U++[A6 4 J] ≠ []:=by simp
   have hUl : (U++[A6 4 J]).length≤1000:=by rw[List.length_append,List.length_singleton];omega
   have hv:=e3.viewU hne
   have ht:=e3.tagsU
   have hX:=bn2 5 (U++[A6 4 J]) hne hUl
   generalize U++[A6 4 J] = W at *
   have hn : ∀ i k,k ≠ 14→nin (i,k) (d5 o1 1012 vU1) = true:=fun i k e1=>bn1 (fun hm=>e1 (ht _ hm).1)
   simp (disch:=omega) only[go_sem,nzP,a0,a2,a5,a6,a7,hcell1,hpar1,hlev1,o21,d0,d1,h6,hv,hX,hn]
   subst hR
   exact qr _ _ _ ⟨by simp (disch:=omega) only[go_sem,a2],⟨cNd (A6 5 W),by simp (disch:=omega) only[go_sem],C4 _,fun o' e=>al9 o' e _⟩,by simp (disch:=omega) only[go_sem],by simp (disch:=omega) only[go_sem]⟩
 ·rw[if_pos (.inl c1)] at hR
  have hBl : ¬ B.length = 0:=fun e=>c1 (List.length_eq_zero_iff.1 e)
  simp (disch:=omega) only[go_sem,nzP,a0,a2,a5,a6,a7,o2,hcell,hpar,hlev,I2]
  exact q2 _ _ _ ⟨_,_,_,_,_,_,_,_,_,_,_,hps.same (by unfold AOk;simp (disch:=omega) only[go_sem,a0,a2,a5,a6,a7]) (by omega),.inr (.inr ⟨rfl,rfl,hR⟩)⟩
theorem bx6 {s : List UInt8} {R : Nd × Int × Int} (hs : s.length≤200) {l m : Nat} {a : v6} {o : Ob} {nx : Nat} {rest : Code} (hf : findLabel xP l = some rest) (hI : PI s R l m a o nx) {k : Nat} {Q : s8} (qr : ∀ a o nx,bx5 R a o→Q .ret a o nx) : WP (EX md0 XPz) crP k nzP rest a o nx (ai1 xP (PI s R) m Q) := by
 obtain ⟨at_,U,J,B,g,b,D,pre,vU,vJ,post,hps,hc⟩:=hI
 rcases hc with ⟨rfl,f,rfl,hf1,hf2,hR⟩ | ⟨rfl,rfl,hR⟩ | ⟨rfl,rfl,hR⟩
 ·rw[fl1] at hf
  injection hf with hf
  subst hf
  have:=dT3 hs hps hf1 hf2 hR (Q:=ai1 xP (PI s R) (f+2) Q) (k:=k) (fun a o nx m' h1 h2=>by rw[K1 fl1];exact ⟨m',h1,h2⟩) (fun a o nx m' h1 h2=>by rw[K1 fl0];exact ⟨m',h1,h2⟩) (fun a o nx m' h1 h2=>by rw[K1 fl2];exact ⟨m',h1,h2⟩) (fun a o nx h=>qr a o nx h)
  simp (disch:=omega) only[go_sem]
  exact this
 ·rw[fl0] at hf
  injection hf with hf
  subst hf
  have:=ec5 hps hR (Q:=ai1 xP (PI s R) 1 Q) (k:=k) (fun a o nx h2=>by rw[K1 fl2];exact ⟨0,by omega,h2⟩) (fun a o nx h=>qr a o nx h)
  simp (disch:=omega) only[go_sem]
  exact this
 ·rw[fl2] at hf
  injection hf with hf
  subst hf
  have:=ec4 hps hR (Q:=ai1 xP (PI s R) 0 Q) (k:=k) (fun a o nx h=>qr a o nx h)
  simp (disch:=omega) only[go_sem]
  exact this
noncomputable def x1 : Code := u9 [1,0,0] bP
noncomputable def x3 : Code := u9 [1,0,1,0] bP
noncomputable def x4 : Code := u9 [1,0,1,1,0] bP
noncomputable def x5 : Code := u9 [1,0,1,1,1,0] bP
noncomputable def x0 : Code := u9 [0] bP
theorem cq8 : xP = .seq x1 (.seq x3 (.seq x4 (.seq x5 (.seq (.label 1) r1)))) := by kernel_rfl
theorem cZ4 : bP = .seq x0 (.scope xP) := by kernel_rfl
theorem bg5 {s : List UInt8} (hs : 200 < s.length) {a : v6} {o : Ob} {nx : Nat} (a0 : a 0 = .str s) (a2 : a 2 = .ptr (0,2) (0,2) 0) (o2 : o (0,2) = some (.row ⟨28,1,(0,2),false,true,nd0⟩)) {Q : s8} (qr : ∀ a o nx,bx5 (B2,0,4) a o→Q .ret a o nx) {k : Nat} :
  WP (EX md0 XPz) crP k nzP xP a o nx Q:=by
 rw[cq8]
 simp only[x1,bP,u9,Tryz.f22,Option.getD_some]
 simp (disch:=omega) only[go_sem,nzP,a0,a2,o2]
 exact qr _ _ _ ⟨by simp (disch:=omega) only[go_sem,a2],⟨nd0,by simp (disch:=omega) only[go_sem],rfl,am9⟩,by simp (disch:=omega) only[go_sem],by simp (disch:=omega) only[go_sem]⟩
theorem bg6 {s : List UInt8} (hs : s.length≤200) {a : v6} {o : Ob} (a0 : a 0 = .str s) (a2 : a 2 = .ptr (0,2) (0,2) 0) (o2 : o (0,2) = some (.row ⟨28,1,(0,2),false,true,nd0⟩)) {Q : s8} {k : Nat}
  (hq : ∀ a o nx,PS s a o nx 0 [] [] [] (2,21) 3 0 [] .nil .nil []→WP (EX md0 XPz) crP k nzP r1 a o nx Q) :
  WP (EX md0 XPz) crP k nzP xP a o 1 Q:=by
 rw[cq8]
 simp only[x1,x3,x4,x5,bP,u9,Tryz.f22,Option.getD_some]
 simp (disch:=omega) only[go_sem,nzP,a0,a2,o2]
 exact hq _ _ _ ⟨by simp (disch:=omega) only[go_sem,a0],by simp (disch:=omega) only[go_sem,a2],by simp (disch:=omega) only[go_sem],by simp (disch:=omega) only[go_sem],by simp (disch:=omega) only[go_sem],by simp (disch:=omega) only[go_sem,o2],⟨by omega,by simp (disch:=omega) only[go_sem],by simp (disch:=omega) only[go_sem],by simp (disch:=omega) only[go_sem],rfl,by show (0 : Nat)≤30;omega⟩,.nil 3,by omega,by omega,⟨.inl ⟨rfl,rfl⟩,.inl ⟨rfl,rfl⟩⟩,by omega,by simp,by simp,by omega,by omega⟩
theorem cg3 (s : List UInt8) : Ok Tryz.prog 22 [.str s] (.tup [j5 (v7 s).1,.int .i64 (v7 s).2.1,.int .i64 (v7 s).2.2]) := by
 refine m7 (E:=EX md0 XPz) cZ2 cZ3 mixed (k:=300) Tryz.func22 (dC8 _) rfl ?_
 show WP _ _ _ _ bP _ _ _ _
 rw[cZ4]
 simp only[x0,bP,u9,Tryz.f22,Option.getD_some]
 simp (disch:=omega) only[go_sem,nzP]
 have hret : ∀ (a : v6) (o : Ob) (nx : Nat),bx5 (v7 s) a o→(Out.ret = Out.normal ∨ Out.ret = Out.ret)∧wO (bt3 (N8 Tryz.prog 28 (a 2) { o:=o,nx:=nx }) (some [a 3,a 4])) fun vs=>A.view o 1012 (ac3 vs) = .tup [j5 (v7 s).1,.int .i64 (v7 s).2.1,.int .i64 (v7 s).2.2]:=by
  rintro a o nx ⟨b2,⟨cs,b3,b4,b5⟩,b6,b7⟩
  refine ⟨.inr rfl,?_⟩
  have htk : cs.take 5 = cs:=j7 b4
  have hv:=b5 o 1010
  simp (disch:=omega) only[go_sem,b2,b3,b6,b7,b4,htk,hv]
 by_cases hs : 200 < s.length
 ·have hp : v7 s = (B2,0,4):=if_pos hs
  refine bm6 (fun _ _ _ _ _=>False) 0 (by omega) ?_ (fun l m a o nx rest hf hI=>hI.elim)
  exact bg5 hs (by simp (disch:=omega) only[go_sem]) (by simp (disch:=omega) only[go_sem]) (by simp (disch:=omega) only[go_sem]) (fun a o nx h=>hret a o nx (by rw[hp];exact h))
 ·have hs' : s.length≤200:=by omega
  have hp : pGo s (s.length+1) 0 [] [] [] = v7 s:=(if_neg hs).symm
  refine bm6 (PI s (v7 s)) (s.length+1+2) (by omega) ?_ (fun l m a o nx rest hf hI=>bx6 hs' hf hI hret)
  refine bg6 hs' (by simp (disch:=omega) only[go_sem]) (by simp (disch:=omega) only[go_sem]) (by simp (disch:=omega) only[go_sem]) (fun a o nx h=>?_)
  exact dT3 hs' h (by omega) (by omega) hp (fun a o nx m' h1 h2=>by rw[K1 fl1];exact ⟨m',h1,h2⟩) (fun a o nx m' h1 h2=>by rw[K1 fl0];exact ⟨m',h1,h2⟩) (fun a o nx m' h1 h2=>by rw[K1 fl2];exact ⟨m',h1,h2⟩) hret
set_option maxRecDepth 20000
def aE0 (args : List AV) (r : AV) : Prop := ∃ s,args = [.str s]∧r = .tup [j5 (v7 s).1,.int .i64 (v7 s).2.1,.int .i64 (v7 s).2.2]
theorem bN8 (args r) (h : aE0 args r) : Ok Tryz.prog 22 args r := by
 obtain ⟨s,rfl,rfl⟩:=h
 exact cg3 s
theorem aX8 : N2 aE0 := by
 rintro args r r' ⟨s,rfl,rfl⟩ ⟨s',h,rfl⟩
 simp only[List.cons.injEq,AV.str.injEq,and_true] at h
 rw[h]
def av4 (k : Nat) : UInt8 := au5.getD k 0
def bB0 (s : Nat) : List UInt8 :=
 let l:=((List.range 5).filter fun i=>s / 2 ^ i % 2 = 1).map av4
 if s = 31 then [46] else if l.length = 1 then l else 91 :: l++[93]
theorem cq9 {α : Type} {f g : Nat→α} {n : Nat} (h : (List.range n).map f = (List.range n).map g) {q : Nat} (hq : q < n) : f q = g q := List.map_inj_left.1 h q (List.mem_range.2 hq)
def orK (x : Int) (k : Nat) : Int := orN x k
def ec6 (ks : List Nat) : Int := ks.foldl orK 0
theorem bx7 {k : Nat} (h : k < 5) : I1 ((av4 k).toNat : Int) = k := by
 have : ∀ k : Fin 5,I1 ((av4 k.1).toNat : Int) = k.1:=by decide +kernel
 exact this ⟨k,h⟩
theorem bN9 (p : List UInt8) (c : UInt8) (r : List UInt8) : z7 (p++c :: r) p.length = c.toNat := by
 rw[z7,Int.toNat_natCast,List.getD_eq_getElem?_getD,List.getElem?_append_right (Nat.le_refl _),Nat.sub_self]
 rfl
def dC9 (ks : List Nat) : List UInt8 := 91 :: ks.map av4
set_option maxRecDepth 20000
theorem bn3 (s : List UInt8) : ∀ (f f' : Nat) (at_ : Int) (U J : List Nd) (B : Lvs),1≤f→1≤f'→(s.length : Int) - at_ < f→(s.length : Int) - at_ < f'→pGo s f at_ U J B = pGo s f' at_ U J B
 | 0,_,_,_,_,_,h,_,_,_=>by omega
 | _,0,_,_,_,_,_,h,_,_=>by omega
 | f+1,f'+1,at_,U,J,B,_,_,h,h'=>by
  rw[pGo,pGo]
  by_cases c0 : (s.length : Int)≤at_
  ·rw[if_pos c0,if_pos c0]
  rw[if_neg c0,if_neg c0]
  have ih:=fun at' U' J' B' (h : at_+1≤at')=>bn3 s f f' at' U' J' B' (by omega) (by omega) (by omega) (by omega)
  have hq:=(Z6 s (s.length - (at_+1).toNat) (at_+1) 0).1
  have e1:=fun U' J' B'=>ih (at_+1) U' J' B' (by omega)
  have e2:=fun U' J' B'=>ih (at_+5) U' J' B' (by omega)
  have e3:=fun U' J' B'=>ih ((B8 s (s.length - (at_+1).toNat) (at_+1) 0).2.2+1) U' J' B' (by omega)
  simp only[e1,e2,e3]
def pG (s : List UInt8) (at_ : Int) (U J : List Nd) (B : Lvs) : Nd × Int × Int := pGo s (((s.length : Int) - at_).toNat+1) at_ U J B
theorem X9 (s : List UInt8) (at_ : Int) (U J : List Nd) (B : Lvs) : pG s at_ U J B =
  if (s.length : Int)≤at_ then (if B ≠ [] ∨ J = [] then (B2,at_,3) else (A6 5 (U++[A6 4 J]),0,0))
  else if ab6 (F8 (z7 s at_)) ≠ 0 then pG s (at_+1) U (J++[F8 (z7 s at_)]) B
  else if z7 s at_ = 91 then
   let q:=B8 s (s.length - (at_+1).toNat) (at_+1) 0
   if q.2.1 = false then (B2,q.2.2,3) else pG s (q.2.2+1) U (J++[.mk 1 q.1 0 0 []]) B
  else if z7 s at_ = 40 then (if B.length+1 > 30 then (B2,at_,4) else pG s (at_+1) [] [] ((U,J) :: B))
  else if J = [] then (B2,at_,3)
  else if G5 (z7 s at_) = 9 then
   let q:=y9 s at_
   if 0≤q.2.2 then (B2,q.2.2,3) else pG s (at_+5) U (aX7 9 q.1 q.2.1 J) B
  else if G5 (z7 s at_) ≠ 0 then pG s (at_+1) U (aX7 (G5 (z7 s at_)) 0 0 J) B
  else if z7 s at_ = 124 then pG s (at_+1) (U++[A6 4 J]) [] B
  else if z7 s at_ = 41∧B ≠ [] then pG s (at_+1) (B.headD ([],[])).1 ((B.headD ([],[])).2++[A6 5 (U++[A6 4 J])]) B.tail
  else (B2,at_,3):=by
 by_cases c0 : (s.length : Int)≤at_
 ·rw[pG,pGo,if_pos c0,if_pos c0]
 rw[pG,pGo,if_neg c0,if_neg c0]
 have ih : ∀ at' U' J' B',at_+1≤at'→pGo s ((s.length : Int) - at_).toNat at' U' J' B' = pG s at' U' J' B':=fun at' U' J' B' h=>bn3 s _ _ at' U' J' B' (by omega) (by omega) (by omega) (by omega)
 have hq:=(Z6 s (s.length - (at_+1).toNat) (at_+1) 0).1
 have e1:=fun U' J' B'=>ih (at_+1) U' J' B' (by omega)
 have e2:=fun U' J' B'=>ih (at_+5) U' J' B' (by omega)
 have e3:=fun U' J' B'=>ih ((B8 s (s.length - (at_+1).toNat) (at_+1) 0).2.2+1) U' J' B' (by omega)
 simp only[e1,e2,e3]
theorem aX9 (s : List UInt8) : v7 s = if 200 < s.length then (B2,0,4) else pG s 0 [] [] [] := by
 rw[v7,pG]
 rw[show ((s.length : Int) - 0).toNat = s.length by omega]
def TAt (s : List UInt8) (a : Int) (t : List UInt8) : Prop := ∃ p r,s = p++t++r∧a = p.length
theorem TAt.app {s a t u} (h : TAt s a (t++u)) : TAt s a t∧TAt s (a+t.length) u := by
 obtain ⟨p,r,rfl,rfl⟩:=h
 exact ⟨⟨p,u++r,by simp,rfl⟩,⟨p++t,r,by simp,by simp⟩⟩
theorem TAt.cons {s a c t} (h : TAt s a (c :: t)) : (z7 s a = c.toNat∧¬ (s.length : Int)≤a∧0≤a)∧TAt s (a+1) t := by
 have h' : TAt s a ([c]++t):=h
 obtain ⟨p,r,rfl,rfl⟩:=h
 refine ⟨⟨?_,?_,by omega⟩,by simpa using h'.app.2⟩
 ·rw[show p++c :: t++r = p++c :: (t++r) by simp,bN9]
 ·simp;omega
theorem TAt.all (s : List UInt8) : TAt s 0 s := ⟨[],[],by simp,rfl⟩
theorem TAt.le {s a t} (h : TAt s a t) : a+t.length≤s.length∧0≤a := by
 obtain ⟨p,r,rfl,rfl⟩:=h
 simp;omega
theorem cg4 {c : UInt8} (h : ab6 (F8 c.toNat) ≠ 0) : c = 119 ∨ c = 98 ∨ c = 99 ∨ c = 102 ∨ c = 116 ∨ c = 46 ∨ c = 48 ∨ c = 95 := by
 have : ∀ n : Fin 256,ab6 (F8 (n.1 : Nat)) ≠ 0→n.1 = 119 ∨ n.1 = 98 ∨ n.1 = 99 ∨ n.1 = 102 ∨ n.1 = 116 ∨ n.1 = 46 ∨ n.1 = 48 ∨ n.1 = 95:=by decide +kernel
 have:=this ⟨c.toNat,c.toNat_lt⟩ h
 simp only[← UInt8.toNat_inj]
 exact this
theorem aw7 {s a c t U J B} (h : TAt s a (c :: t)) (hc : ab6 (F8 c.toNat) ≠ 0) : pG s a U J B = pG s (a+1) U (J++[F8 c.toNat]) B := by
 obtain ⟨⟨h1,h2,_⟩,_⟩:=h.cons
 rw[X9,if_neg h2,h1,if_pos hc]
theorem cA7 {s a t U J B} (h : TAt s a (40 :: t)) (hb : B.length+1≤30) : pG s a U J B = pG s (a+1) [] [] ((U,J) :: B) := by
 obtain ⟨⟨h1,h2,_⟩,_⟩:=h.cons
 rw[X9,if_neg h2,h1,if_neg (by decide),if_neg (by decide),if_pos (by decide),if_neg (by omega)]
theorem cg5 {s a t U J U0 J0 B} (h : TAt s a (41 :: t)) (hJ : J ≠ []) : pG s a U J ((U0,J0) :: B) = pG s (a+1) U0 (J0++[A6 5 (U++[A6 4 J])]) B := by
 obtain ⟨⟨h1,h2,_⟩,_⟩:=h.cons
 rw[X9,if_neg h2,h1,if_neg (by decide),if_neg (by decide),if_neg (by decide),if_neg hJ,if_neg (by decide),if_neg (by decide),if_neg (by decide),if_pos ⟨rfl,by simp⟩]
 rfl
theorem cZ5 {s a t U J B} (h : TAt s a (124 :: t)) (hJ : J ≠ []) : pG s a U J B = pG s (a+1) (U++[A6 4 J]) [] B := by
 obtain ⟨⟨h1,h2,_⟩,_⟩:=h.cons
 rw[X9,if_neg h2,h1,if_neg (by decide),if_neg (by decide),if_neg (by decide),if_neg hJ,if_neg (by decide),if_neg (by decide),if_pos (by decide)]
theorem Z7 (k lo hi : Int) (J : List Nd) (x : Nd) : aX7 k lo hi (J++[x]) = J++[.mk k 0 lo hi [x]] := by
 rw[aX7,List.dropLast_concat,List.getLastD_concat]
theorem cA8 {s a c t U J x B} (h : TAt s a (c :: t)) (hc : c = 42 ∨ c = 43 ∨ c = 63) : pG s a U (J++[x]) B = pG s (a+1) U (J++[.mk (G5 c.toNat) 0 0 0 [x]]) B := by
 obtain ⟨⟨h1,h2,_⟩,_⟩:=h.cons
 rw[X9,if_neg h2,h1]
 rcases hc with rfl | rfl | rfl <;>
 rw[if_neg (by decide),if_neg (by decide),if_neg (by decide),if_neg (by simp),if_neg (by decide),if_pos (by decide),Z7]
def dig (x : Nat) : UInt8 := UInt8.ofNat (48+x)
theorem cA9 {x : Nat} (h : x≤9) : (dig x).toNat = 48+x := by
 show (48+x) % 256 = 48+x
 omega
theorem cg6 {s a t U J x B} {lo hi : Nat} (h : TAt s a (123 :: dig lo :: 44 :: dig hi :: 125 :: t)) (h1 : lo≤hi) (h2 : hi≤9) : pG s a U (J++[x]) B = pG s (a+5) U (J++[.mk 9 0 lo hi [x]]) B := by
 obtain ⟨⟨b0,l0,n0⟩,g1⟩:=h.cons
 obtain ⟨⟨b1,l1,_⟩,g2⟩:=g1.cons
 obtain ⟨⟨b2,l2,_⟩,g3⟩:=g2.cons
 obtain ⟨⟨b3,l3,_⟩,g4⟩:=g3.cons
 obtain ⟨⟨b4,l4,_⟩,_⟩:=g4.cons
 rw[show a+1+1 = a+2 by omega] at *
 rw[show a+2+1 = a+3 by omega] at *
 rw[show a+3+1 = a+4 by omega] at *
 rw[cA9 (by omega)] at b1 b3
 have d1 : B7 s (a+1) = lo:=by rw[B7,if_neg l1,b1,if_pos (by omega)];omega
 have d3 : B7 s (a+3) = hi:=by rw[B7,if_neg l3,b3,if_pos (by omega)];omega
 have s2 : D7 s (a+2) 44 = -1:=by rw[D7,if_neg l2,if_pos b2]
 have s4 : D7 s (a+4) 125 = -1:=by rw[D7,if_neg l4,if_pos b4]
 have ht : y9 s a = ((lo : Int),(hi : Int),-1):=by
  unfold y9
  rw[d1,d3,s2,s4,if_neg (by omega),if_neg (by omega),if_neg (by decide),if_neg (by omega),if_neg (by omega),if_neg (by decide),if_neg (by omega)]
 rw[X9,if_neg l0,b0,if_neg (by decide),if_neg (by decide),if_neg (by decide),if_neg (by simp),if_pos (by decide),ht,if_neg (show ¬ (0 : Int)≤-1 by decide),Z7]
def aP3 (m : Nat) : List Nat := (List.range 5).filter fun i=>m / 2 ^ i % 2 = 1
theorem cB0 : ∀ q : Fin 31,(bB0 (q.1+1) = [46]∧q.1+1 = 31) ∨ (∃ k : Fin 5,bB0 (q.1+1) = [av4 k.1]∧q.1+1 = 2 ^ k.1) ∨ (bB0 (q.1+1) = dC9 (aP3 (q.1+1))++[93]∧ec6 (aP3 (q.1+1)) = ((q.1+1 : Nat) : Int)∧(aP3 (q.1+1)).all (fun k=>decide (k < 5)) = true) := by decide +kernel
theorem bn4 : ∀ (ks : List Nat) (s : List UInt8) (a out : Int) (m : Nat),(∀ k ∈ ks,k < 5)→TAt s a (ks.map av4++[93])→ks.length+1≤m→B8 s m a out = (ks.foldl orK out,decide (0 < ks.foldl orK out),a+ks.length)
 | [],s,a,out,m,_,h,hm=>by
  obtain ⟨m,rfl⟩ : ∃ m',m = m'+1:=⟨m - 1,by omega⟩
  have h : TAt s a [93]:=h
  obtain ⟨⟨h1,_,_⟩,_⟩:=h.cons
  rw[B8,h1]
  have h1 : I1 (((93 : UInt8).toNat : Nat) : Int) < 0:=by decide
  rw[if_pos h1]
  simp
  congr
 | k :: ks,s,a,out,m,hk,h,hm=>by
  obtain ⟨m,rfl⟩ : ∃ m',m = m'+1:=⟨m - 1,by omega⟩
  have hk5:=hk k (List.mem_cons_self ..)
  have h : TAt s a (av4 k :: (ks.map av4++[93])):=h
  obtain ⟨⟨h1,_,_⟩,h2⟩:=h.cons
  rw[B8,h1,bx7 hk5,if_neg (by omega),bn4 ks s (a+1) (orN out k) m (fun k' h=>hk k' (List.mem_cons_of_mem _ h)) h2 (by rw[List.length_cons] at hm;omega)]
  have e4 : orK out k = orN out k:=rfl
  rw[List.foldl_cons,e4,List.length_cons]
  simp only[Prod.mk.injEq,true_and]
  omega
theorem cZ6 {s a U J B} {m : Nat} (h : TAt s a (bB0 m)) (h0 : 1≤m) (h1 : m≤31) : pG s a U J B = pG s (a+(bB0 m).length) U (J++[.mk 1 m 0 0 []]) B := by
 obtain ⟨q,rfl⟩ : ∃ q,m = q+1:=⟨m - 1,by omega⟩
 rcases cB0 ⟨q,by omega⟩ with ⟨e1,e2⟩ | ⟨k,e1,e2⟩ | ⟨e1,e2,e3⟩
 ·simp only at e1 e2
  rw[e1] at h ⊢
  rw[e2,aw7 h (by decide)]
  rfl
 ·simp only at e1 e2
  rw[e1] at h ⊢
  have : ∀ k : Fin 5,ab6 (F8 ((av4 k.1).toNat : Nat)) ≠ 0∧F8 ((av4 k.1).toNat : Nat) = .mk 1 ((2 ^ k.1 : Nat) : Int) 0 0 []:=by
   intro k
   have hd : ∀ k : Fin 5,ab6 (F8 ((av4 k.1).toNat : Nat)) ≠ 0:=by decide
   refine ⟨hd k,?_⟩
   match k with
   | ⟨0,_⟩=>rfl
   | ⟨1,_⟩=>rfl
   | ⟨2,_⟩=>rfl
   | ⟨3,_⟩=>rfl
   | ⟨4,_⟩=>rfl
  rw[e2,aw7 h (this k).1,(this k).2]
  rfl
 ·simp only at e1 e2 e3
  rw[e1] at h ⊢
  have hk : ∀ k ∈ aP3 (q+1),k < 5:=fun k hk=>of_decide_eq_true (List.all_eq_true.1 e3 k hk)
  have hle:=h.le
  have h' : TAt s a (91 :: ((aP3 (q+1)).map av4++[93])):=h
  obtain ⟨⟨b1,b2,b3⟩,h2⟩:=h'.cons
  have hl : (dC9 (aP3 (q+1))++[93]).length = (aP3 (q+1)).length+2:=by rw[List.length_append,dC9,List.length_cons,List.length_map];rfl
  rw[hl] at hle ⊢
  have hc:=bn4 (aP3 (q+1)) s (a+1) 0 (s.length - (a+1).toNat) hk h2 (by omega)
  have e2' : (aP3 (q+1)).foldl orK 0 = ((q+1 : Nat) : Int):=e2
  rw[e2'] at hc
  rw[X9,if_neg b2,b1,if_neg (by decide),if_pos (by decide),hc]
  have hd : decide ((0 : Int) < ((q+1 : Nat) : Int)) = true:=decide_eq_true (by omega)
  simp only[hd]
  rw[if_neg (by decide)]
  congr 1
  omega
end Go.Proofs.YtpmjpogcaglphaaGreatDoor.A
