/- The document's reader: its row; next, fail, mode, class. -/
import Derived.Test.YtpmjpogcaglphaaGreatDoorMLMCompiles20
set_option linter.unusedVariables false
set_option linter.unusedSimpArgs false
set_option linter.unnecessarySimpa false
namespace Go.Proofs.YtpmjpogcaglphaaGreatDoor.A
open Go
set_option maxRecDepth 20000
theorem as0 {E : Env} {cr : v8} {k : Nat} {nz : Nat→Option (List (Nat × Nat))} {fn : Func} {c : Code} {args : List AV} {o : Ob} {nx : Nat} {K : AV × AH→Prop} (hb : fn.body = some c)
  (h : WP E cr k nz c (A2 args) o nx (fun u a o' nx'=>(u = .normal ∨ u = .ret)∧wO (s7 E.P a ⟨o',nx'⟩ fn.results.toList) (fun vs=>∀ o'',(∀ t,t ∉ d5 o' p9 (ac3 vs)→o'' t = o' t)→K (view o' p9 (ac3 vs),⟨o'',nx'⟩)))) : wO (Option.map (fun p=>t8 true p.1 p.2) (av2 E cr k nz fn args ⟨o,nx⟩)) K:=by
 obtain ⟨v,H',h1,h2⟩:=U4 (Post:=fun v o' nx'=>∀ o'',(∀ t,t ∉ d5 o' p9 v→o'' t = o' t)→K (view o' p9 v,⟨o'',nx'⟩)) hb h
 rw[h1]
 show K (t8 true v H')
 unfold t8
 rw[if_pos rfl]
 obtain ⟨o',nx'⟩:=H'
 by_cases hf : flat v
 ·rw[if_pos hf]
  exact h2 _ (fun _ _=>rfl)
 ·rw[if_neg hf]
  exact h2 _ (fun t ht=>N9 ht)
theorem by7 {R : dp7} {args : List AV} {H : AH} {K : AV × AH→Prop} (h1 : ∃ v H',R args H v H') (h2 : ∀ v H' o'',R args H v H'→(∀ t,t ∉ d5 H'.o p9 v→o'' t = H'.o t)→K (view H'.o p9 v,⟨o'',H'.nx⟩)) : wO (Option.map (fun p=>t8 true p.1 p.2) (B1 R args H)) K := by
 obtain ⟨v,H',h⟩:=h1
 have e : ∃ p : AV × AH,R args H p.1 p.2:=⟨(v,H'),h⟩
 have e2 : B1 R args H = some e.choose:=by unfold B1;rw[dif_pos e]
 rw[e2]
 have h3:=e.choose_spec
 generalize e.choose = p at *
 obtain ⟨v,o',nx'⟩:=p
 show K (t8 true v ⟨o',nx'⟩)
 unfold t8
 rw[if_pos rfl]
 by_cases hf : flat v
 ·rw[if_pos hf]
  exact h2 _ _ _ h3 (fun _ _=>rfl)
 ·rw[if_neg hf]
  exact h2 _ _ _ h3 (fun t ht=>N9 ht)
abbrev rdP (r : Nat) : AV := .ptr (r,13) (r,13) 0
structure Rdr (o : Ob) (nx r : Nat) (s : List UInt8) (P d e : Int) : Prop where
 lt : r < nx
 row : o (r,13) = some (.row ⟨124,1,(r,13),false,true,[.str s,.int .i64 P,.int .i64 d,.int .i64 e]⟩)
def KeepR (r nx : Nat) (o o' : Ob) : Prop := ∀ i k,i < nx→(i,k) ≠ (r,13)→o' (i,k) = o (i,k)
theorem KeepR.refl (r nx o) : KeepR r nx o o := fun _ _ _ _=>rfl
theorem KeepR.trans {r nx nx' o o' o''} (h1 : KeepR r nx o o') (h2 : KeepR r nx' o' o'') (h : nx≤nx') : KeepR r nx o o'' := fun i k a b=>by rw[h2 i k (by omega) b,h1 i k a b]
theorem KeepR.up {r nx nx' o o'} (h : KeepR r nx' o o') (hn : nx≤nx') : KeepR r nx o o' := fun i k a b=>h i k (by omega) b
theorem Rdr.to {o nx r s P d e o' nx' P' d' e'} (h : Rdr o nx r s P d e) (hn : nx≤nx') (ho : o' (r,13) = some (.row ⟨124,1,(r,13),false,true,[.str s,.int .i64 P',.int .i64 d',.int .i64 e']⟩)) : Rdr o' nx' r s P' d' e' := ⟨by have := h.lt;omega,ho⟩
theorem Rdr.inj {o nx nx' r s P d e s' P' d' e'} (h : Rdr o nx r s P d e) (h' : Rdr o nx' r s' P' d' e') : s = s'∧P = P'∧d = d'∧e = e' := by
 have:=h.row.symm.trans h'.row
 simp only[Option.some.injEq,AObj.row.injEq,Row.mk.injEq,List.cons.injEq,AV.str.injEq,AV.int.injEq,and_true,true_and] at this
 exact this
def bR5 (s : List UInt8) (P e : Int) : List AV := if (s.length : Int)≤P ∨ e ≠ 0 then [.int .u8 0,.bool false] else [.int .u8 (z7 s P),.bool true]
def RNx (args : List AV) (r : AV) : Prop := ∃ s P d e,(0≤P ∨ e ≠ 0)∧args = [.fptr [.str s,.int .i64 P,.int .i64 d,.int .i64 e]]∧r = .tup (bR5 s P e)
theorem dg3 : N2 RNx := by
 rintro args r r' ⟨s,P,d,e,_,rfl,rfl⟩ ⟨s',P',d',e',_,h,rfl⟩
 simp only[List.cons.injEq,AV.fptr.injEq,AV.str.injEq,AV.int.injEq,and_true,true_and] at h
 rw[h.1,h.2.1,h.2.2.2]
theorem ck3 (X) : d9 (EX md0 X) (fun _=>none) 1 Tryz.f83 = true := by kernel_rfl
theorem cG1 (args r) (h : RNx args r) : Ok Tryz.prog 83 args r := by
 obtain ⟨s,P,d,e,hP,rfl,rfl⟩:=h
 refine m7 (E:=EX md0 (fun _ _=>none)) (z8 _) (q7 _) mixed (k:=0) Tryz.func83 (ck3 _) rfl ?_
 simp only[Tryz.f83,Option.getD_some,bR5]
 by_cases h1 : (s.length : Int)≤P
 ·rw[if_pos (.inl h1)]
  simp (disch:=omega) only[go_sem,h1]
 ·by_cases h2 : e = 0
  ·subst h2
   rw[if_neg (by omega)]
   obtain ⟨c,hc,hb⟩:=L8 (by omega) h1
   rw[hb]
   simp (disch:=omega) only[go_sem,h1,hc]
  ·rw[if_pos (.inr h2)]
   simp (disch:=omega) only[go_sem,h1,h2]
theorem ck4 : ((List.range 256).map fun c=>(X0 E4 1000).1 101 [.int .u8 ((c : Nat) : Int)]) = (List.range 256).map fun c=>some (.int .i64 (I1 ((c : Nat) : Int))) := by kernel_rfl
def RMd (args : List AV) (r : AV) : Prop := ∃ c : UInt8,args = [.int .u8 c.toNat]∧r = .int .i64 (I1 c.toNat)
theorem dg4 : N2 RMd := by
 rintro args r r' ⟨c,rfl,rfl⟩ ⟨c',h,rfl⟩
 simp only[List.cons.injEq,AV.int.injEq,and_true,true_and] at h
 rw[h]
theorem dg5 (args r) (h : RMd args r) : Ok Tryz.prog 101 args r := by
 obtain ⟨c,rfl,rfl⟩:=h
 exact aN2 (E:=E4) bG0 mixed (cq9 ck4 c.toNat_lt)
noncomputable def XRd : FuncId→List AV→Option AV := t7 [(83,D9 RNx),(101,D9 RMd)]
theorem au9 : s6 Tryz.prog XRd := l8 (l8 (t6 _) (n8 dg5)) (n8 cG1)
theorem L9 (s P d e) (h : 0≤P ∨ e ≠ 0) : XRd 83 [.fptr [.str s,.int .i64 P,.int .i64 d,.int .i64 e]] = some (.tup (bR5 s P e)) := o8 dg3 ⟨s,P,d,e,h,rfl,rfl⟩
theorem bo9 (c : UInt8) : XRd 101 [.int .u8 c.toNat] = some (.int .i64 (I1 c.toNat)) := o8 dg4 ⟨c,rfl,rfl⟩
theorem M3 {s : List UInt8} {P e : Int} (h : (s.length : Int)≤P ∨ e ≠ 0) : bR5 s P e = [.int .u8 0,.bool false] := if_pos h
theorem Y2 {s : List UInt8} {P : Int} (h : ¬ (s.length : Int)≤P) : bR5 s P 0 = [.int .u8 (z7 s P),.bool true] := if_neg (by omega)
theorem ck5 (X) : d9 (EX md0 X) (fun _=>none) 2 Tryz.f58 = true := by kernel_rfl
noncomputable def aF0 (args : List AV) (H : AH) : Option (AV × AH) := if args.length = 2 then av2 (EX md0 (fun _ _=>none)) noR 0 (fun _=>none) Tryz.f58 args H else none
theorem ax3 (args H v H') (h : aF0 args H = some (v,H')) : OkR Tryz.prog 58 args H v H' := by
 unfold aF0 at h
 split at h
 ·rename_i hn
  exact L0 (E:=EX md0 (fun _ _=>none)) (z8 _) (q7 Tryz.prog).1 (q7 Tryz.prog).2 mixed Tryz.func58 (by rw[hn];exact ck5 _) h
 ·cases h
theorem m6 {r nx i j : Nat} {o o' : Ob} {x} (h : KeepR r nx o o') (hi : nx≤i) : KeepR r nx o (upd o' (i,j) x) := fun i' k' h1 h2=>by
 rw[m8 (by intro e;cases e;omega)]
 exact h i' k' h1 h2
theorem u6 {r nx : Nat} {o o' : Ob} {x} (h : KeepR r nx o o') : KeepR r nx o (upd o' (r,13) x) := fun i' k' h1 h2=>by
 rw[m8 h2]
 exact h i' k' h1 h2
theorem A9 {r nx : Nat} {o : Ob} {s P d e e'} {K : AV × AH→Prop} (h : Rdr o nx r s P d e) (hK : ∀ o' nx',nx≤nx'→KeepR r nx o o'→Rdr o' nx' r s P d (if e = 0 then e' else e)→K (j5 B2,⟨o',nx'⟩)) :
  wO (Option.map (fun p=>t8 true p.1 p.2) (aF0 [rdP r,.int .i64 e'] ⟨o,nx⟩)) K:=by
 have h1:=h.lt
 have h2:=h.row
 refine as0 (fn:=Tryz.f58) (c:=Tryz.f58.body.getD .skip) rfl ?_
 simp only[Tryz.f58,Option.getD_some]
 by_cases he : e = 0
 ·subst he
  rw[if_pos rfl] at hK
  simp (disch:=omega) only[go_sem,h2]
  intro o'' ho
  obtain rfl:=funext fun t=>ho t (by simp)
  exact hK _ _ (by omega) (m6 (u6 (m6 (KeepR.refl _ _ _) (Nat.le_refl _))) (Nat.le_refl _)) (h.to (by omega) (by simp[b9]))
 ·rw[if_neg he] at hK
  simp (disch:=omega) only[go_sem,h2,he]
  intro o'' ho
  obtain rfl:=funext fun t=>ho t (by simp)
  exact hK _ _ (by omega) (m6 (m6 (KeepR.refl _ _ _) (Nat.le_refl _)) (Nat.le_refl _)) (h.to (by omega) (by simp[b9,h2]))
set_option maxRecDepth 20000
noncomputable def crF : v8 := p8 [(58,aF0)]
theorem bp0 : x8 Tryz.prog crF∧Up crF := m9 (C1 _) ax3
theorem D3 : crF 58 = aF0 := rfl
theorem ck6 (X) : d9 (EX md0 X) (fun _=>none) 1 Tryz.f102 = true := by kernel_rfl
noncomputable def bR6 (args : List AV) (H : AH) : Option (AV × AH) := if args.length = 1 then av2 (EX md0 XRd) crF 1000 (fun _=>none) Tryz.f102 args H else none
theorem ck7 (args H v H') (h : bR6 args H = some (v,H')) : OkR Tryz.prog 102 args H v H' := by
 unfold bR6 at h
 split at h
 ·rename_i hn
  exact L0 (E:=EX md0 XRd) au9 bp0.1 bp0.2 mixed Tryz.func102 (by rw[hn];exact ck6 _) h
 ·cases h
theorem bR7 {r nx : Nat} {o : Ob} {s : List UInt8} {P d : Int} {K : AV × AH→Prop} (h : Rdr o nx r s P d 0) (hP : 0≤P) (hP' : P≤s.length) (hs : s.length≤200)
  (hK : ∀ o' nx',nx≤nx'→KeepR r nx o o'→(∀ q,q = B8 s (s.length - P.toNat) P 0→(q.2.1 = true→Rdr o' nx' r s (q.2.2+1) d 0→K (j5 (.mk 1 q.1 0 0 []),⟨o',nx'⟩))∧(q.2.1 = false→Rdr o' nx' r s q.2.2 d 3→K (j5 B2,⟨o',nx'⟩)))) :
  wO (Option.map (fun p=>t8 true p.1 p.2) (bR6 [rdP r] ⟨o,nx⟩)) K:=by
 have hrow:=h.row
 have hlt0:=h.lt
 refine as0 (fn:=Tryz.f102) (c:=Tryz.f102.body.getD .skip) rfl ?_
 simp only[Tryz.f102,Option.getD_some]
 simp (disch:=omega) only[go_sem]
 generalize hR : B8 s (s.length - P.toNat) P 0 = R at hK
 refine o9 (fun m a o1 nx1=>∃ (x out : Int),P≤x∧x≤s.length∧m = s.length - x.toNat∧nx+1≤nx1∧a 0 = rdP r∧a 2 = .ptr (nx,2) (nx,2) 0∧a 3 = .int .i64 out∧0≤out∧out≤31∧Rdr o1 nx1 r s x d 0∧KeepR r nx o o1∧o1 (nx,2) = some (.row ⟨28,1,(nx,2),false,true,nd0⟩)∧B8 s (s.length - x.toNat) x out = R) (s.length - P.toNat) ?_ ?_ ?_
 ·omega
 ·exact ⟨P,0,by omega,hP',rfl,by omega,by simp (disch:=omega) only[go_sem],by simp (disch:=omega) only[go_sem],by simp (disch:=omega) only[go_sem],by omega,by omega,h.to (by omega) (by simp[b9,hrow]),m6 (KeepR.refl _ _ _) (Nat.le_refl _),by simp (disch:=omega) only[go_sem],hR⟩
 ·rintro m a o1 nx1 ⟨x,out,x1,x2,rfl,hnx,a0,a2,a3,o1',o2',hS,hkp,hres,hR'⟩
  have h2:=hS.row
  have hrlt:=hS.lt
  have hnext:=L9 s x d 0 (by omega)
  by_cases hlt : x < s.length
  ·obtain ⟨c,hc,hbt⟩:=L8 (a:=x) (by omega) (by omega : ¬ (s.length : Int)≤x)
   rw[Y2 (by omega),hbt] at hnext
   have hmd:=bo9 c
   obtain ⟨m',hm'⟩ : ∃ m',s.length - x.toNat = m'+1:=⟨s.length - x.toNat - 1,by omega⟩
   rw[hm',B8,hbt] at hR'
   have hlt4:=aw6 c.toNat
   by_cases hs1 : I1 c.toNat < 0
   ·rw[if_pos hs1] at hR'
    have hc93 : (c = 93) ↔ ((c.toNat : Int) = 93):=by rw[← UInt8.toNat_inj];show c.toNat = 93 ↔ _;omega
    have hfin : ∀ (o2 : Ob) (nx2 : Nat),nx1≤nx2→KeepR r nx1 o1 o2→Rdr o2 nx2 r s x d 3→R = (out,false,x)→K (j5 B2,⟨upd o2 (nx,2) (.row ⟨28,1,(nx,2),false,true,cNd B2⟩),nx2⟩):=fun o2 nx2 g1 g2 g3 g4=>by
     refine (hK _ nx2 (by omega) (m6 (hkp.trans g2 (by omega)) (Nat.le_refl _)) R rfl).2 (by rw[g4]) ?_
     rw[g4]
     exact g3.to (Nat.le_refl _) (by rw[m8 (by simp)];exact g3.row)
    by_cases hs2 : (c.toNat : Int) = 93
    ·rw[hs2] at hmd hs1
     by_cases hs3 : 0 < out
     ·have hb : (decide (0 < out) && decide ((c.toNat : Int) = 93)) = true:=by rw[decide_eq_true hs3,decide_eq_true hs2];rfl
      rw[hb] at hR'
      simp (disch:=omega) only[go_sem,a0,a2,a3,h2,hnext,hmd,hs1,hs2,hs3,D3,hres]
      intro o'' ho
      obtain rfl:=funext fun t=>ho t (by simp)
      have hk1 : KeepR r nx o (upd (upd o1 (r,13) (.row ⟨124,1,(r,13),false,true,[.str s,.int .i64 (x+1),.int .i64 d,.int .i64 0]⟩)) (nx,2) (.row ⟨28,1,(nx,2),false,true,[.int .i64 1,.int .i64 out,.int .i64 0,.int .i64 0,.nil]⟩)):=m6 (u6 hkp) (Nat.le_refl _)
      have:=(hK _ (nx1+1+1+1+1) (by omega) hk1 R rfl).1 (by rw[← hR'])
      rw[← hR',j5,n7,slN,r8] at this
      exact this (h.to (by omega) (by rw[m8 (by simp),d8]))
     ·have hb : (decide (0 < out) && decide ((c.toNat : Int) = 93)) = false:=by rw[decide_eq_false hs3];rfl
      rw[hb] at hR'
      simp (disch:=omega) only[go_sem,a0,a2,a3,h2,hnext,hmd,hs1,hs2,hs3,D3,hres]
      refine A9 ⟨by omega,h2⟩ (fun o2 nx2 g1 g2 g3=>?_)
      have hres2 : o2 (nx,2) = _:=(g2 nx 2 (by omega) (by simp)).trans hres
      simp (disch:=omega) only[go_sem,a0,a2,a3,hres2]
      intro o'' ho
      obtain rfl:=funext fun t=>ho t (by simp)
      have:=hfin o2 nx2 (by omega) (g2.up (by omega)) g3 hR'.symm
      simpa only[j5,n7,slN,r8,List.length_nil] using this
    ·have hb : (decide (0 < out) && decide ((c.toNat : Int) = 93)) = false:=by rw[decide_eq_false hs2,Bool.and_false]
     rw[hb] at hR'
     simp (disch:=omega) only[go_sem,a0,a2,a3,h2,hnext,hmd,hs1,hs2,D3,hres]
     refine A9 ⟨by omega,h2⟩ (fun o2 nx2 g1 g2 g3=>?_)
     have hres2 : o2 (nx,2) = _:=(g2 nx 2 (by omega) (by simp)).trans hres
     simp (disch:=omega) only[go_sem,a0,a2,a3,hres2]
     intro o'' ho
     obtain rfl:=funext fun t=>ho t (by simp)
     have:=hfin o2 nx2 (by omega) (g2.up (by omega)) g3 hR'.symm
     simpa only[j5,n7,slN,r8,List.length_nil] using this
   ·rw[if_neg hs1] at hR'
    have hin:=bM9 o1' o2' (by omega : 0≤I1 c.toNat) hlt4
    have h93 : ¬ (c.toNat : Int) = 93:=fun e=>hs1 (by rw[e];decide)
    have hconv : IntKind.u64.wrap (I1 c.toNat) = I1 c.toNat:=IntWalk.u64_in _ (by omega)
    simp (disch:=omega) only[go_sem,a0,a2,a3,h2,hnext,hmd,hs1,h93,D3,hres,hconv]
    refine ⟨_,?_,x+1,_,by omega,by omega,rfl,by omega,rfl,hin.1,hin.2,h.to (by omega) (d8 _ _ _),u6 hkp,?_⟩
    ·omega
    ·have : s.length - (x+1).toNat = m':=by omega
     rw[this]
     exact hR'
  ·have hxe : x = s.length:=by omega
   have hm0 : s.length - x.toNat = 0:=by omega
   rw[hm0,B8] at hR'
   rw[M3 (.inl (by omega))] at hnext
   simp (disch:=omega) only[go_sem,a0,a2,a3,h2,hnext,D3,hres]
   refine A9 ⟨by omega,h2⟩ (fun o2 nx2 g1 g2 g3=>?_)
   have hres2 : o2 (nx,2) = _:=(g2 nx 2 (by omega) (by simp)).trans hres
   simp (disch:=omega) only[go_sem,a0,a2,a3,hres2]
   intro o'' ho
   obtain rfl:=funext fun t=>ho t (by simp)
   have:=(hK (upd o2 (nx,2) (.row ⟨28,1,(nx,2),false,true,cNd B2⟩)) nx2 (by omega) (m6 (hkp.trans g2 (by omega)) (Nat.le_refl _)) R rfl).2 (by rw[← hR']) (by rw[← hR'];exact g3.to (Nat.le_refl _) (by rw[m8 (by simp)];exact g3.row))
   simpa only[j5,n7,slN,r8,List.length_nil] using this
set_option maxRecDepth 20000
inductive WNd (o : Ob) (b nx : Nat) : Nat→List AV→Nd→Prop
 | data (d : Nat) (n : Nd) : WNd o b nx d (cNd n) n
 | beh (d i j : Nat) (g : Tag) (ro : Bool) (k : Int) (x : Nd) (cs : List AV) : b≤i→i < nx→(j = 21 ∨ j = 26 ∨ j = 31)→o (i,j) = some (.row ⟨28,5,g,ro,true,cs⟩)→WNd o b nx d cs x →
  WNd o b nx (d+1) [.int .i64 k,.int .i64 0,.int .i64 0,.int .i64 0,.ref (i,j) g 0 1] (.mk k 0 0 0 [x])
theorem WNd.keep {o o' : Ob} {b nx nx' d : Nat} {cs : List AV} {n : Nd} (h : WNd o b nx d cs n) (hn : nx≤nx') (hk : ∀ i j,b≤i→i < nx→(j = 21 ∨ j = 26 ∨ j = 31)→o' (i,j) = o (i,j)) : WNd o' b nx' d cs n := by
 induction h with
 | data d n=>exact .data d n
 | beh d i j g ro k x cs h1 h2 hj h3 _ ih=>exact .beh d i j g ro k x cs h1 (by omega) hj (by rw[hk i j h1 h2 hj];exact h3) ih
theorem WNd.up {o : Ob} {b nx d d' : Nat} {cs : List AV} {n : Nd} (h : WNd o b nx d cs n) (hd : d≤d') : WNd o b nx d' cs n := by
 induction h generalizing d' with
 | data d n=>exact .data d' n
 | beh d i j g ro k x cs h1 h2 hj h3 _ ih =>
  obtain ⟨e,rfl⟩ : ∃ e,d' = e+1:=⟨d' - 1,by omega⟩
  exact .beh e i j g ro k x cs h1 h2 hj h3 (ih (by omega))
theorem WNd.length {o : Ob} {b nx d : Nat} {cs : List AV} {n : Nd} (h : WNd o b nx d cs n) : cs.length = 5 := by
 cases h with
 | data=>exact C4 n
 | beh=>rfl
theorem WNd.ok {o : Ob} {b nx d : Nat} {cs : List AV} {n : Nd} (h : WNd o b nx d cs n) : cs.all w0 = true := by
 cases h with
 | data=>exact cq1 n
 | beh=>rfl
theorem WNd.view {o : Ob} {b nx d : Nat} {cs : List AV} {n : Nd} (h : WNd o b nx d cs n) : ∀ e,d < e→cs.map (A.view o e) = cNd n := by
 induction h with
 | data d n=>intro e _;exact al9 o e n
 | beh d i j g ro k x cs h1 h2 hj h3 hc ih =>
  intro e he
  obtain ⟨e,rfl⟩ : ∃ e',e = e'+1:=⟨e - 1,by omega⟩
  have hl:=hc.length
  have hv:=ih e (by omega)
  have htk : cs.take 5 = cs:=j7 hl
  rw[n7,slN,A5]
  simp (disch:=omega) only[go_sem,h3,hl,htk,hv]
theorem WNd.tags {o : Ob} {b nx d : Nat} {cs : List AV} {n : Nd} (h : WNd o b nx d cs n) : ∀ e (t : Tag),t ∈ cs.flatMap (d5 o e)→b≤t.1∧t.1 < nx∧(t.2 = 21 ∨ t.2 = 26 ∨ t.2 = 31) := by
 induction h with
 | data d n=>intro e t ht;rw[aw3] at ht;cases ht
 | beh d i j g ro k x cs h1 h2 hj h3 hc ih =>
  intro e t ht
  cases e with
  | zero=>simp[d5] at ht
  | succ e =>
   have hl:=hc.length
   have htk : cs.take 5 = cs:=j7 hl
   simp (disch:=omega) only[go_sem,h3,htk] at ht
   have ht' : t = (i,j) ∨ t ∈ cs.flatMap (d5 o e):=by simpa using ht
   rcases ht' with rfl | ht'
   ·exact ⟨h1,h2,hj⟩
   ·have:=ih e t ht'
    exact this
def dg6 (r b nx : Nat) (o o' : Ob) : Prop := ∀ i k,i < nx→(i,k) ≠ (r,13)→¬ (b≤i∧(k = 21 ∨ k = 26 ∨ k = 31))→o' (i,k) = o (i,k)
theorem KeepR.x {r b nx o o'} (h : KeepR r nx o o') : dg6 r b nx o o' := fun i k h1 h2 _=>h i k h1 h2
theorem ck8 (X) : d9 (EX md0 X) (fun _=>none) 2 Tryz.f99 = true := by kernel_rfl
noncomputable def bR8 (args : List AV) (H : AH) : Option (AV × AH) := if args.length = 2 then av2 (EX md0 XRd) crF 1000 (fun _=>none) Tryz.f99 args H else none
theorem ck9 (args H v H') (h : bR8 args H = some (v,H')) : OkR Tryz.prog 99 args H v H' := by
 unfold bR8 at h
 split at h
 ·rename_i hn
  exact L0 (E:=EX md0 XRd) au9 bp0.1 bp0.2 mixed Tryz.func99 (by rw[hn];exact ck8 _) h
 ·cases h
theorem bp1 {s : List UInt8} {a : Int} {c : UInt8} (h : ¬ (s.length : Int)≤a) (hb : z7 s a = c.toNat) : B7 s a = if 48≤(c.toNat : Int)∧(c.toNat : Int)≤57 then (c.toNat : Int) - 48 else -1 := by
 rw[B7,if_neg h,hb]
set_option maxHeartbeats 2000000 in
theorem bR9 {r nx b D : Nat} {o : Ob} {s : List UInt8} {at_ d : Int} {cs : List AV} {n : Nd} {K : AV × AH→Prop} (h : Rdr o nx r s (at_+1) d 0) (h0 : 0≤at_) (h1 : at_+1≤s.length) (hs : s.length≤200) (hn : WNd o b nx D cs n) (hD : D≤1000) (hbn : b≤nx)
  (hK : ∀ o' nx',nx≤nx'→dg6 r b nx o o'→(∀ T,T = y9 s at_→(0≤T.2.2→Rdr o' nx' r s T.2.2 d 3→K (j5 B2,⟨o',nx'⟩))∧(¬ 0≤T.2.2→Rdr o' nx' r s (at_+5) d 0→K (j5 (.mk 9 0 T.1 T.2.1 [n]),⟨o',nx'⟩)))) :
  wO (Option.map (fun p=>t8 true p.1 p.2) (bR8 [rdP r,.agg cs] ⟨o,nx⟩)) K:=by
 have hrow:=h.row
 have hlt0:=h.lt
 have hc5:=hn.length
 have hcok:=hn.ok
 have hctk : cs.take 5 = cs:=j7 hc5
 refine as0 (fn:=Tryz.f99) (c:=Tryz.f99.body.getD .skip) rfl ?_
 simp only[Tryz.f99,Option.getD_some]
 have hfin : ∀ (o2 : Ob) (nx2 : Nat) (P' : Int),nx≤nx2→KeepR r nx o o2→Rdr o2 nx2 r s P' d 3→(y9 s at_).2.2 = P'→0≤P'→K (j5 B2,⟨upd o2 (nx,4) (.row ⟨28,1,(nx,4),false,true,cNd B2⟩),nx2⟩):=fun o2 nx2 P' g1 g2 g3 g4 g5=>by
  refine (hK _ nx2 g1 (m6 g2 (Nat.le_refl _)).x _ rfl).1 (by omega) ?_
  rw[g4]
  exact g3.to (Nat.le_refl _) (by rw[m8 (by simp)];exact g3.row)
 have e0 : at_+1 - 1 = at_:=by omega
 simp (disch:=omega) only[go_sem,hcok,hrow,e0]
 refine o9 (fun m a o1 nx1=>∃ (i : Nat) (d0 d1 : Int),i≤2∧m = 2 - i∧nx+4≤nx1∧a 0 = rdP r∧a 3 = .ptr (nx,3) (nx,3) 0∧a 4 = .ptr (nx,4) (nx,4) 0∧a 5 = .int .i64 at_∧a 6 = .ptr (nx+1+1,6) (nx+1+1,6) 0∧a 7 = .int .i64 i∧Rdr o1 nx1 r s (at_+1+2 * (i : Int)) d 0∧KeepR r nx o o1 ∧
  o1 (nx,3) = some (.row ⟨28,1,(nx,3),false,true,cs⟩)∧o1 (nx,4) = some (.row ⟨28,1,(nx,4),false,true,nd0⟩)∧o1 (nx+1+1,6) = some (.row ⟨164,1,(nx+1+1,6),false,true,[.int .i64 d0,.int .i64 d1]⟩)∧at_+1+2 * (i : Int)≤s.length ∧
  (1≤i→B7 s (at_+1) = d0∧0≤d0∧d0≤9∧D7 s (at_+2) 44 = -1)∧(2≤i→B7 s (at_+3) = d1∧0≤d1∧d1≤9∧D7 s (at_+4) 125 = -1)) 2 (by omega) ?_ ?_
 ·exact ⟨0,0,0,by omega,by omega,by omega,by simp (disch:=omega) only[go_sem],by simp (disch:=omega) only[go_sem],by simp (disch:=omega) only[go_sem],by simp (disch:=omega) only[go_sem],by simp (disch:=omega) only[go_sem],by simp (disch:=omega) only[go_sem],h.to (by omega) (by simp[b9,hrow]),m6 (m6 (m6 (KeepR.refl _ _ _) (Nat.le_refl _)) (Nat.le_refl _)) (by omega),by simp (disch:=omega) only[go_sem],by simp (disch:=omega) only[go_sem],by simp (disch:=omega) only[go_sem],by simpa using h1,fun h=>absurd h (by omega),fun h=>absurd h (by omega)⟩
 ·rintro m a o1 nx1 ⟨i,d0,d1,hi,rfl,hnx,a0,a3,a4,a5,a6,a7,hS,hkp,o3,o4,o6,hle,hf1,hf2⟩
  have hrlt:=hS.lt
  have hicase : i = 0 ∨ i = 1 ∨ i = 2:=by omega
  rcases hicase with hi0 | hi1 | hi2
  ·-- round 0
   obtain rfl : i = 0:=hi0
   have eP : at_+1+2 * ((0 : Nat) : Int) = at_+1:=by omega
   rw[eP] at hS hle
   have h2:=hS.row
   have hnext:=L9 s (at_+1) d 0 (by omega)
   by_cases hend : (s.length : Int)≤at_+1
   ·have hT : (y9 s at_).2.2 = at_+1:=by
     have : B7 s (at_+1) = -2:=by rw[B7,if_pos hend]
     unfold y9
     rw[this,if_pos rfl]
     show (s.length : Int) = _;omega
    rw[M3 (.inl hend)] at hnext
    simp (disch:=omega) only[go_sem,a0,a3,a4,a5,a6,a7,h2,hnext,D3,o3,o4,o6]
    refine A9 ⟨by omega,h2⟩ (fun o2 nx2 k1 k2 k3=>?_)
    have o42 : o2 (nx,4) = some (.row ⟨28,1,(nx,4),false,true,nd0⟩):=by rw[k2 nx 4 (by omega) (by simp)];simp[b9,o4]
    simp (disch:=omega) only[go_sem,a0,a4,o42]
    intro o'' ho
    obtain rfl:=funext fun t=>ho t (by simp)
    have:=hfin o2 nx2 _ (by omega) (hkp.trans (k2.up (nx:=nx1) (by omega)) (by omega)) k3 hT (by omega)
    simpa only[j5,n7,slN,r8,List.length_nil] using this
   ·obtain ⟨c,hc,hbt⟩:=L8 (a:=at_+1) (by omega) hend
    have hdg:=bp1 hend hbt
    rw[Y2 hend,hbt] at hnext
    by_cases hd : (c.toNat : Int) < 48 ∨ 57 < (c.toNat : Int)
    ·have hT : (y9 s at_).2.2 = at_:=by
      rw[if_neg (by omega)] at hdg
      unfold y9
      rw[hdg,if_neg (by decide),if_pos (by decide)]
     rcases Classical.em ((c.toNat : Int) < 48) with hd1 | hd1
     ·simp (disch:=omega) only[go_sem,a0,a3,a4,a5,a6,a7,h2,hnext,hd1,D3,o3,o4,o6]
      refine A9 ⟨by omega,d8 _ _ _⟩ (fun o2 nx2 k1 k2 k3=>?_)
      have o42 : o2 (nx,4) = some (.row ⟨28,1,(nx,4),false,true,nd0⟩):=by rw[k2 nx 4 (by omega) (by simp)];simp[b9,o4]
      simp (disch:=omega) only[go_sem,a0,a4,o42]
      intro o'' ho
      obtain rfl:=funext fun t=>ho t (by simp)
      have:=hfin o2 nx2 _ (by omega) ((u6 hkp).trans (k2.up (nx:=nx1) (by omega)) (by omega)) k3 hT (by omega)
      simpa only[j5,n7,slN,r8,List.length_nil] using this
     ·have hd2 : 57 < (c.toNat : Int):=by omega
      simp (disch:=omega) only[go_sem,a0,a3,a4,a5,a6,a7,h2,hnext,hd1,hd2,D3,o3,o4,o6]
      refine A9 ⟨by omega,d8 _ _ _⟩ (fun o2 nx2 k1 k2 k3=>?_)
      have o42 : o2 (nx,4) = some (.row ⟨28,1,(nx,4),false,true,nd0⟩):=by rw[k2 nx 4 (by omega) (by simp)];simp[b9,o4]
      simp (disch:=omega) only[go_sem,a0,a4,o42]
      intro o'' ho
      obtain rfl:=funext fun t=>ho t (by simp)
      have:=hfin o2 nx2 _ (by omega) ((u6 hkp).trans (k2.up (nx:=nx1) (by omega)) (by omega)) k3 hT (by omega)
      simpa only[j5,n7,slN,r8,List.length_nil] using this
    ·rw[if_pos (by omega)] at hdg
     have hd1 : ¬ (c.toNat : Int) < 48:=by omega
     have hd2 : ¬ 57 < (c.toNat : Int):=by omega
     have e2 : at_+1+1 = at_+2:=by omega
     have e3 : at_+2+1 = at_+3:=by omega
     have hnext2:=L9 s (at_+2) d 0 (by omega)
     by_cases hend2 : (s.length : Int)≤at_+2
     ·have hT : (y9 s at_).2.2 = at_+2:=by
       have : D7 s (at_+2) 44 = s.length:=by rw[D7,if_pos hend2]
       unfold y9
       rw[hdg,if_neg (by omega),if_neg (by omega),this,if_pos (by omega)]
       show (s.length : Int) = _;omega
      rw[M3 (.inl hend2)] at hnext2
      simp (disch:=omega) only[go_sem,a0,a3,a4,a5,a6,a7,h2,hnext,hnext2,hd1,hd2,D3,o3,o4,o6,e2]
      refine A9 ⟨by omega,d8 _ _ _⟩ (fun o2 nx2 k1 k2 k3=>?_)
      have o42 : o2 (nx,4) = some (.row ⟨28,1,(nx,4),false,true,nd0⟩):=by rw[k2 nx 4 (by omega) (by simp)];simp[b9,o4]
      simp (disch:=omega) only[go_sem,a0,a4,o42]
      intro o'' ho
      obtain rfl:=funext fun t=>ho t (by simp)
      have:=hfin o2 nx2 _ (by omega) ((u6 (m6 hkp (by omega))).trans (k2.up (nx:=nx1) (by omega)) (by omega)) k3 hT (by omega)
      simpa only[j5,n7,slN,r8,List.length_nil] using this
     ·obtain ⟨c2,hc2,hbt2⟩:=L8 (a:=at_+2) (by omega) hend2
      rw[Y2 hend2,hbt2] at hnext2
      by_cases hd3 : (c2.toNat : Int) = 44
      ·have hsg : D7 s (at_+2) 44 = -1:=by rw[D7,if_neg hend2,if_pos (by rw[hbt2,hd3];rfl)]
       simp (disch:=omega) only[go_sem,a0,a3,a4,a5,a6,a7,h2,hnext,hnext2,hd1,hd2,hd3,D3,o3,o4,o6,e2,e3]
       refine ⟨_,?_,1,_,_,by omega,rfl,by omega,rfl,?_,u6 (u6 (m6 hkp (by omega))),rfl,?_,fun _=>⟨hdg,by omega,by omega,hsg⟩,fun h=>absurd h (by omega)⟩
       ·omega
       ·rw[show at_+1+2 * ((1 : Nat) : Int) = at_+3 by omega]
        exact ⟨by omega,d8 _ _ _⟩
       ·omega
      ·have hT : (y9 s at_).2.2 = at_+2:=by
        have : D7 s (at_+2) 44 = at_+2:=by rw[D7,if_neg hend2,if_neg (by rw[hbt2];exact hd3)]
        unfold y9
        rw[hdg,if_neg (by omega),if_neg (by omega),this,if_pos (by omega)]
       simp (disch:=omega) only[go_sem,a0,a3,a4,a5,a6,a7,h2,hnext,hnext2,hd1,hd2,hd3,D3,o3,o4,o6,e2]
       refine A9 ⟨by omega,d8 _ _ _⟩ (fun o2 nx2 k1 k2 k3=>?_)
       have o42 : o2 (nx,4) = some (.row ⟨28,1,(nx,4),false,true,nd0⟩):=by rw[k2 nx 4 (by omega) (by simp)];simp[b9,o4]
       simp (disch:=omega) only[go_sem,a0,a4,o42]
       intro o'' ho
       obtain rfl:=funext fun t=>ho t (by simp)
       have:=hfin o2 nx2 _ (by omega) ((u6 (m6 hkp (by omega))).trans (k2.up (nx:=nx1) (by omega)) (by omega)) k3 hT (by omega)
       simpa only[j5,n7,slN,r8,List.length_nil] using this
  ·-- round 1
   obtain rfl : i = 1:=hi1
   have eP : at_+1+2 * ((1 : Nat) : Int) = at_+3:=by omega
   rw[eP] at hS hle
   have h2:=hS.row
   have hnext:=L9 s (at_+3) d 0 (by omega)
   obtain ⟨g1,g2,g3,g4⟩:=hf1 (by omega)
   by_cases hend : (s.length : Int)≤at_+3
   ·have hT : (y9 s at_).2.2 = at_+3:=by
     have : B7 s (at_+3) = -2:=by rw[B7,if_pos hend]
     unfold y9
     rw[g1,if_neg (by omega),if_neg (by omega),g4,if_neg (by decide)];rw[this,if_pos rfl]
     show (s.length : Int) = _;omega
    rw[M3 (.inl hend)] at hnext
    simp (disch:=omega) only[go_sem,a0,a3,a4,a5,a6,a7,h2,hnext,D3,o3,o4,o6]
    refine A9 ⟨by omega,h2⟩ (fun o2 nx2 k1 k2 k3=>?_)
    have o42 : o2 (nx,4) = some (.row ⟨28,1,(nx,4),false,true,nd0⟩):=by rw[k2 nx 4 (by omega) (by simp)];simp[b9,o4]
    simp (disch:=omega) only[go_sem,a0,a4,o42]
    intro o'' ho
    obtain rfl:=funext fun t=>ho t (by simp)
    have:=hfin o2 nx2 _ (by omega) (hkp.trans (k2.up (nx:=nx1) (by omega)) (by omega)) k3 hT (by omega)
    simpa only[j5,n7,slN,r8,List.length_nil] using this
   ·obtain ⟨c,hc,hbt⟩:=L8 (a:=at_+3) (by omega) hend
    have hdg:=bp1 hend hbt
    rw[Y2 hend,hbt] at hnext
    by_cases hd : (c.toNat : Int) < 48 ∨ 57 < (c.toNat : Int)
    ·have hT : (y9 s at_).2.2 = at_:=by
      rw[if_neg (by omega)] at hdg
      unfold y9
      rw[g1,if_neg (by omega),if_neg (by omega),g4,if_neg (by decide)];rw[hdg,if_neg (by decide),if_pos (by decide)]
     rcases Classical.em ((c.toNat : Int) < 48) with hd1 | hd1
     ·simp (disch:=omega) only[go_sem,a0,a3,a4,a5,a6,a7,h2,hnext,hd1,D3,o3,o4,o6]
      refine A9 ⟨by omega,d8 _ _ _⟩ (fun o2 nx2 k1 k2 k3=>?_)
      have o42 : o2 (nx,4) = some (.row ⟨28,1,(nx,4),false,true,nd0⟩):=by rw[k2 nx 4 (by omega) (by simp)];simp[b9,o4]
      simp (disch:=omega) only[go_sem,a0,a4,o42]
      intro o'' ho
      obtain rfl:=funext fun t=>ho t (by simp)
      have:=hfin o2 nx2 _ (by omega) ((u6 hkp).trans (k2.up (nx:=nx1) (by omega)) (by omega)) k3 hT (by omega)
      simpa only[j5,n7,slN,r8,List.length_nil] using this
     ·have hd2 : 57 < (c.toNat : Int):=by omega
      simp (disch:=omega) only[go_sem,a0,a3,a4,a5,a6,a7,h2,hnext,hd1,hd2,D3,o3,o4,o6]
      refine A9 ⟨by omega,d8 _ _ _⟩ (fun o2 nx2 k1 k2 k3=>?_)
      have o42 : o2 (nx,4) = some (.row ⟨28,1,(nx,4),false,true,nd0⟩):=by rw[k2 nx 4 (by omega) (by simp)];simp[b9,o4]
      simp (disch:=omega) only[go_sem,a0,a4,o42]
      intro o'' ho
      obtain rfl:=funext fun t=>ho t (by simp)
      have:=hfin o2 nx2 _ (by omega) ((u6 hkp).trans (k2.up (nx:=nx1) (by omega)) (by omega)) k3 hT (by omega)
      simpa only[j5,n7,slN,r8,List.length_nil] using this
    ·rw[if_pos (by omega)] at hdg
     have hd1 : ¬ (c.toNat : Int) < 48:=by omega
     have hd2 : ¬ 57 < (c.toNat : Int):=by omega
     have e2 : at_+3+1 = at_+4:=by omega
     have e3 : at_+4+1 = at_+5:=by omega
     have hnext2:=L9 s (at_+4) d 0 (by omega)
     by_cases hend2 : (s.length : Int)≤at_+4
     ·have hT : (y9 s at_).2.2 = at_+4:=by
       have : D7 s (at_+4) 125 = s.length:=by rw[D7,if_pos hend2]
       unfold y9
       rw[g1,if_neg (by omega),if_neg (by omega),g4,if_neg (by decide)];rw[hdg,if_neg (by omega),if_neg (by omega),this,if_pos (by omega)]
       show (s.length : Int) = _;omega
      rw[M3 (.inl hend2)] at hnext2
      simp (disch:=omega) only[go_sem,a0,a3,a4,a5,a6,a7,h2,hnext,hnext2,hd1,hd2,D3,o3,o4,o6,e2]
      refine A9 ⟨by omega,d8 _ _ _⟩ (fun o2 nx2 k1 k2 k3=>?_)
      have o42 : o2 (nx,4) = some (.row ⟨28,1,(nx,4),false,true,nd0⟩):=by rw[k2 nx 4 (by omega) (by simp)];simp[b9,o4]
      simp (disch:=omega) only[go_sem,a0,a4,o42]
      intro o'' ho
      obtain rfl:=funext fun t=>ho t (by simp)
      have:=hfin o2 nx2 _ (by omega) ((u6 (m6 hkp (by omega))).trans (k2.up (nx:=nx1) (by omega)) (by omega)) k3 hT (by omega)
      simpa only[j5,n7,slN,r8,List.length_nil] using this
     ·obtain ⟨c2,hc2,hbt2⟩:=L8 (a:=at_+4) (by omega) hend2
      rw[Y2 hend2,hbt2] at hnext2
      by_cases hd3 : (c2.toNat : Int) = 125
      ·have hsg : D7 s (at_+4) 125 = -1:=by rw[D7,if_neg hend2,if_pos (by rw[hbt2,hd3];rfl)]
       simp (disch:=omega) only[go_sem,a0,a3,a4,a5,a6,a7,h2,hnext,hnext2,hd1,hd2,hd3,D3,o3,o4,o6,e2,e3]
       refine ⟨_,?_,2,_,_,by omega,rfl,by omega,rfl,?_,u6 (u6 (m6 hkp (by omega))),rfl,?_,fun _=>⟨g1,g2,g3,g4⟩,fun _=>⟨hdg,by omega,by omega,hsg⟩⟩
       ·omega
       ·rw[show at_+1+2 * ((2 : Nat) : Int) = at_+5 by omega]
        exact ⟨by omega,d8 _ _ _⟩
       ·omega
      ·have hT : (y9 s at_).2.2 = at_+4:=by
        have : D7 s (at_+4) 125 = at_+4:=by rw[D7,if_neg hend2,if_neg (by rw[hbt2];exact hd3)]
        unfold y9
        rw[g1,if_neg (by omega),if_neg (by omega),g4,if_neg (by decide)];rw[hdg,if_neg (by omega),if_neg (by omega),this,if_pos (by omega)]
       simp (disch:=omega) only[go_sem,a0,a3,a4,a5,a6,a7,h2,hnext,hnext2,hd1,hd2,hd3,D3,o3,o4,o6,e2]
       refine A9 ⟨by omega,d8 _ _ _⟩ (fun o2 nx2 k1 k2 k3=>?_)
       have o42 : o2 (nx,4) = some (.row ⟨28,1,(nx,4),false,true,nd0⟩):=by rw[k2 nx 4 (by omega) (by simp)];simp[b9,o4]
       simp (disch:=omega) only[go_sem,a0,a4,o42]
       intro o'' ho
       obtain rfl:=funext fun t=>ho t (by simp)
       have:=hfin o2 nx2 _ (by omega) ((u6 (m6 hkp (by omega))).trans (k2.up (nx:=nx1) (by omega)) (by omega)) k3 hT (by omega)
       simpa only[j5,n7,slN,r8,List.length_nil] using this
  ·-- the end
   obtain rfl : i = 2:=hi2
   have eP : at_+1+2 * ((2 : Nat) : Int) = at_+5:=by omega
   rw[eP] at hS hle
   have h2:=hS.row
   obtain ⟨g1,g2,g3,g4⟩:=hf1 (by omega)
   obtain ⟨g5,g6,g7,g8⟩:=hf2 (by omega)
   have hTT : y9 s at_ = if d1 < d0 then (0,0,at_) else (d0,d1,-1):=by
    unfold y9
    rw[g1,if_neg (by omega),if_neg (by omega),g4,if_neg (by decide),g5,if_neg (by omega),if_neg (by omega),g8,if_neg (by decide)]
   by_cases hd : d1 < d0
   ·have hT : (y9 s at_).2.2 = at_:=by rw[hTT,if_pos hd]
    simp (disch:=omega) only[go_sem,a0,a3,a4,a5,a6,a7,h2,hd,D3,o3,o4,o6]
    refine A9 ⟨by omega,d8 _ _ _⟩ (fun o2 nx2 k1 k2 k3=>?_)
    have o42 : o2 (nx,4) = some (.row ⟨28,1,(nx,4),false,true,nd0⟩):=by rw[k2 nx 4 (by omega) (by simp)];simp[b9,o4]
    simp (disch:=omega) only[go_sem,a0,a4,o42]
    intro o'' ho
    obtain rfl:=funext fun t=>ho t (by simp)
    have:=hfin o2 nx2 _ (by omega) ((u6 hkp).trans (k2.up (nx:=nx1) (by omega)) (by omega)) k3 hT (by omega)
    simpa only[j5,n7,slN,r8,List.length_nil] using this
   ·rw[if_neg hd] at hTT
    have hn1 : ∀ (o' : Ob),(∀ i j,b≤i→i < nx→(j = 21 ∨ j = 26 ∨ j = 31)→o' (i,j) = o (i,j))→WNd o' b nx D cs n:=fun o' hk=>hn.keep (Nat.le_refl _) hk
    simp (disch:=omega) only[go_sem,a0,a3,a4,a5,a6,a7,h2,hd,D3,o3,o4,o6,hc5,hctk,hcok]
    generalize hoF : upd (upd o1 (nx1+1+1,92) _) (nx,4) _ = oF
    have hF : ∀ i j,(i,j) ≠ (nx1+1+1,92)→(i,j) ≠ (nx,4)→oF (i,j) = o1 (i,j):=fun i j e1 e2=>by rw[← hoF,m8 e2,m8 e1]
    have hw:=hn1 oF (fun i j k1 k2 k3=>by rw[hF i j (by intro e;cases e;omega) (by intro e;cases e;omega)];exact hkp i j k2 (by intro e;cases e;omega))
    rw[hw.view 1010 (by omega)]
    intro o'' ho
    have hnm : ∀ i j,i < nx→¬ (b≤i∧(j = 21 ∨ j = 26 ∨ j = 31))→o'' (i,j) = oF (i,j):=fun i j k1 k2=>ho (i,j) (fun hm=>by
     rcases List.mem_cons.1 hm with e | hm
     ·cases e;omega
     ·have:=hw.tags 1010 (i,j) hm
      exact k2 ⟨this.1,this.2.2⟩)
    have hres:=(hK o'' (nx1+1+1+1) (by omega) (fun i k k1 k2 k3=>by rw[hnm i k k1 k3,hF i k (by intro e;cases e;omega) (by intro e;cases e;omega)];exact hkp i k k1 k2) _ rfl).2 (by rw[hTT];show ¬ (0 : Int)≤-1;decide) ⟨by omega,by rw[hnm r 13 hlt0 (by omega),hF r 13 (by simp) (by simp)];exact h2⟩
    rw[hTT] at hres
    simpa only[j5,n7,slN,A5,List.length_singleton] using hres
end Go.Proofs.YtpmjpogcaglphaaGreatDoor.A
