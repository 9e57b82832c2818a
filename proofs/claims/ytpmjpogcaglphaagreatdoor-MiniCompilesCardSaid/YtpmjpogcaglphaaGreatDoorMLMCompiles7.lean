/- within: the remainder. -/
import Derived.Test.YtpmjpogcaglphaaGreatDoorMLMCompiles6
import Derived.Test.YtpmjpogcaglphaaGreatDoorMLMCompiles4
set_option linter.unusedVariables false
set_option linter.unusedSimpArgs false
set_option linter.unnecessarySimpa false
namespace Go.Proofs.YtpmjpogcaglphaaGreatDoor.A
open Go
set_option maxRecDepth 20000
def RW (args : List AV) (r : AV) : Prop := ∃ a n : Int,0 < n∧n≤1000000∧args = [.int .i64 a,.int .i64 n]∧r = .int .i64 (a % n)
theorem dC1 : N2 RW := by
 rintro args r r' ⟨a,n,_,_,rfl,rfl⟩ ⟨a',n',_,_,h,rfl⟩
 simp only[List.cons.injEq,AV.int.injEq,true_and,and_true] at h
 rw[h.1,h.2]
theorem cx2 {a n : Int} (h1 : 0 < n) (h2 : n≤1000000) : D9 RW [.int .i64 a,.int .i64 n] = some (.int .i64 (a % n)) := o8 dC1 ⟨a,n,h1,h2,rfl,rfl⟩
theorem bF6 (a n : Int) (h : 0 < n) : a % n = if a.tmod n < 0 then a.tmod n+n else a.tmod n := by
 have hn : ¬ n = 0:=by omega
 have e1:=Int.emod_lt_of_pos a h
 have e2:=Int.emod_nonneg a hn
 rw[Int.tmod_eq_emod]
 have : (n.natAbs : Int) = n:=by omega
 split
 ·split <;> omega
 ·rename_i hc
  simp only[not_or] at hc
  have h0 : a % n ≠ 0:=fun e=>hc.2 (Int.dvd_of_emod_eq_zero e)
  split <;> omega
theorem be5 (a n : Int) (h : 0 < n) : -n < a.tmod n∧a.tmod n < n := by
 have hn : ¬ n = 0:=by omega
 rw[Int.tmod_eq_emod]
 have:=Int.emod_lt_of_pos a h
 have:=Int.emod_nonneg a hn
 constructor <;> split <;> omega
theorem cV1 (X) : d9 (EX md0 X) (fun _=>none) 2 Tryz.f29 = true := by kernel_rfl
theorem bu0 (args r) (h : RW args r) : Ok Tryz.prog 29 args r := by
 obtain ⟨a,n,h1,h2,rfl,rfl⟩:=h
 refine m7 (E:=EX md0 (fun _ _=>none)) (cr:=noR) (t6 _) (q7 _) mixed (k:=0) Tryz.func29 (cV1 _) rfl ?_
 rw[bF6 a n h1]
 obtain ⟨h3,h4⟩:=be5 a n h1
 simp only[Tryz.f29,Option.getD_some]
 by_cases hc : a.tmod n < 0
 ·rw[if_pos hc]
  simp (disch:=omega) only[go_sem,hc]
 ·rw[if_neg hc]
  simp (disch:=omega) only[go_sem,hc]
theorem cV2 (X) : d9 (EX md0 X) (fun _=>none) 2 Tryz.f39 = true := by kernel_rfl
theorem aJ9 (args r) (h : RW args r) : Ok Tryz.prog 39 args r := by
 obtain ⟨a,n,h1,h2,rfl,rfl⟩:=h
 refine m7 (E:=EX md0 (fun _ _=>none)) (cr:=noR) (t6 _) (q7 _) mixed (k:=0) Tryz.func39 (cV2 _) rfl ?_
 rw[bF6 a n h1]
 obtain ⟨h3,h4⟩:=be5 a n h1
 simp only[Tryz.f39,Option.getD_some]
 by_cases hc : a.tmod n < 0
 ·rw[if_pos hc]
  simp (disch:=omega) only[go_sem,hc]
 ·rw[if_neg hc]
  simp (disch:=omega) only[go_sem,hc]
set_option maxRecDepth 20000
abbrev Z0 (N S F : Int) (ss : List (Int × Int × Int)) (fs : List (Int × Int)) : AV := .agg [.int .i64 N,.int .i64 S,.int .i64 F,.sl ss.length (cS ss),.sl fs.length (cP fs)]
def P7 (rows : List (List Int)) (f : Int × Int) : List (List Int) := rows.set f.1.toNat (rows.getD f.1.toNat []++[f.2])
def u5 (N : Nat) (fs : List (Int × Int)) : List (List Int) := fs.foldl P7 (List.replicate N [])
theorem aB4 (N fs f) : u5 N (fs++[f]) = P7 (u5 N fs) f := by simp[u5]
theorem L5 (N fs) : (u5 N fs).length = N := by
 have : ∀ (l : List (Int × Int)) (rows : List (List Int)),(l.foldl P7 rows).length = rows.length:=fun l=>by
  induction l with
  | nil=>intro;rfl
  | cons f l ih=>intro rows;rw[List.foldl_cons,ih];simp[P7]
 rw[u5,this];simp
theorem aB5 (N fs j) : ((u5 N fs).getD j []).length≤fs.length := by
 have : ∀ (l : List (Int × Int)) (rows : List (List Int)) (n : Nat),(∀ j,(rows.getD j []).length≤n)→∀ j,((l.foldl P7 rows).getD j []).length≤n+l.length:=fun l=>by
  induction l with
  | nil=>intro rows n h j;simpa using h j
  | cons f l ih =>
   intro rows n h j
   have:=ih (P7 rows f) (n+1) (fun j=>by
    unfold P7
    by_cases hf : f.1.toNat < rows.length
    ·rw[D2 _ _ _ _ _ hf]
     split
     ·have:=h f.1.toNat;rw[List.length_append,List.length_singleton];omega
     ·have:=h j;omega
    ·rw[List.set_eq_of_length_le (by omega)];have:=h j;omega) j
   simp only[List.foldl_cons,List.length_cons];omega
 have:=this fs (List.replicate N []) 0 (fun j=>by simp[List.getD,List.getElem?_replicate];split <;> simp) j
 simpa [u5] using this
def cO1 : Nat→Option (List (Nat × Nat))
 | 1=>some [(1,4),(1,6),(3,6),(4,6)]
 | 5=>some [(1,12),(3,12),(5,12),(7,12),(9,12),(1,13),(3,13)]
 | _=>none
theorem bu1 (md X cr k) (N : Nat) (S F : Int) (hN : N≤1000) (ss fs) (hfs : fs.length≤100000) (hk : fs.length < k) (hin : ∀ p ∈ fs,0≤p.1∧p.1 < (N : Int)) :
  WP (EX md X) cr k cO1 (Tryz.f80.body.getD .skip) (A2 [Z0 N S F ss fs]) (fun _=>none) 0 (fun u a o nx=>u = .ret∧∃ cs,NI 32 o nx cs (u5 N fs)∧a 2 = .ptr (0,2) (0,2) 0 ∧
   o (0,2) = some (.row ⟨155,1,(0,2),false,true,[.int .i64 N,.ref (1,10) (1,10) 0 N]⟩)∧o (1,10) = some (.row ⟨23,1,(1,10),false,true,cs⟩)):=by
 simp only[Tryz.f80,Option.getD_some]
 simp only[go_sem,cO1,A2]
 refine o9 (fun m a o nx=>∃ i cs,i≤fs.length∧m = fs.length - i∧NI 32 o nx cs (u5 N (fs.take i))∧2≤nx∧a 2 = .ptr (0,2) (0,2) 0∧a 3 = .ptr (1,3) (1,3) 0∧a 13 = .sl fs.length (cP fs)∧a 14 = .int .i64 fs.length∧a 15 = .int .i64 i ∧
   (∃ x,o (0,2) = some (.row ⟨155,1,(0,2),false,true,x⟩)∧x.length = 2)∧o (1,3) = some (.row ⟨155,1,(1,3),false,true,[.int .i64 N,.ref (1,10) (1,10) 0 N]⟩)∧o (1,10) = some (.row ⟨23,1,(1,10),false,true,cs⟩)) fs.length hk ⟨0,List.replicate N .nil,?_⟩ ?_
 ·simp only[go_sem,aB1,List.take_zero,Nat.sub_zero]
  exact ⟨by omega,NI.start _ _ _ N,⟨_,rfl,rfl⟩⟩
 ·rintro m a o nx ⟨i,cs,hi,rfl,hNI,hnx,h2,h3,h13,h14,h15,⟨x,hx,hxl⟩,ho3,ho10⟩
  by_cases hlt : i < fs.length
  ·obtain ⟨hf0,hfN⟩:=hin (fs.getD i (0,0)) (by simp[List.getD,hlt])
   have hat:=aV3 hlt
   have htake:=q8 hlt (0,0)
   generalize fs.getD i (0,0) = f at hf0 hfN hat htake
   obtain ⟨f,t⟩:=f
   simp only at hf0 hfN hat htake
   obtain ⟨j,rfl⟩:=Int.eq_ofNat_of_zero_le hf0
   have hrl:=L5 N (fs.take i)
   have hcl : cs.length = N:=by rw[hNI.1,hrl]
   have hjN : j < cs.length:=by omega
   have hH:=hNI.2.1 j (by omega)
   have hget:=au1 (s:=1) hjN
   generalize hv : cs.getD j .nil = v at hH hget
   have hspl : ∀ v,w9 cs j [v] = cs.set j v:=fun v=>Y9 cs j v hjN
   have hnext : u5 N (fs.take (i+1)) = (u5 N (fs.take i)).set j ((u5 N (fs.take i)).getD j []++[t]):=by rw[htake,aB4];rfl
   have hjr : j < (u5 N (fs.take i)).length:=by omega
   rcases hH with ⟨rfl,e2,e3⟩ | ⟨i1,g,rfl,hi1,hrow,hlen⟩
   ·simp (disch:=omega) only[go_sem,cO1,h2,h3,h13,h14,h15,ho3,ho10,hat,hget,hspl,IntWalk.i64_in]
    have e4 : (u5 N (fs.take i)).getD j [] = []:=List.length_eq_zero_iff.1 e2
    refine ⟨_,?_,i+1,_,by omega,rfl,?_,by simp,⟨x,hx,hxl⟩,rfl⟩
    ·omega
    ·rw[hnext,e4]
     exact NI.set (l:=[t]) hNI hjr rfl (by omega) (by omega) (.inl ⟨hv,by omega⟩) (fun i' _ h=>by simp[b9,h]) (by simp[b9,cI])
   ·have hle:=aB5 N (fs.take i) j
    have hlt' : (fs.take i).length≤fs.length:=by simp;omega
    generalize (u5 N (fs.take i)).getD j [] = r at *
    simp (disch:=omega) only[go_sem,cO1,h2,h3,h13,h14,h15,ho3,ho10,hat,hget,hrow,hspl,IntWalk.i64_in]
    refine ⟨_,?_,i+1,_,by omega,rfl,?_,by simp,⟨x,hx,hxl⟩,rfl⟩
    ·omega
    ·rw[hnext]
     exact NI.set (l:=r++[t]) hNI hjr (by simp) (by omega) (by omega) (.inr ⟨_,_,hv⟩) (fun i' _ h=>by simp[b9,h]) (by simp[b9,cI])
  ·have e : i = fs.length:=by omega
   subst e
   rw[List.take_length] at hNI
   match x,hxl with
   | [x1,x2],_ =>
    simp only[go_sem,cO1,h2,h3,h13,h14,h15,ho3,ho10,hx]
    exact ⟨cs,hNI.keep (fun _ _=>by simp[b9]) (by omega),rfl⟩
abbrev ad3 (N : Nat) (rows : List (List Int)) : AV := .agg [.int .i64 N,.sl N (rows.map slI)]
theorem cV3 (X) : d9 (EX md0 X) cO1 1 Tryz.f80 = true := by kernel_rfl
theorem bu2 (N : Nat) (S F : Int) (hN : N≤1000) (ss fs) (hfs : fs.length≤100000) (hin : ∀ p ∈ fs,0≤p.1∧p.1 < (N : Int)) : Ok Tryz.prog 80 [Z0 N S F ss fs] (ad3 N (u5 N fs)) := by
 refine m7 (E:=EX md0 (fun _ _=>none)) (cr:=noR) (t6 _) (q7 _) mixed (k:=fs.length+1) Tryz.func80 (cV3 _) rfl (U2 (bu1 _ _ _ _ N S F hN ss fs hfs (by omega) hin) ?_)
 rintro u a o nx ⟨rfl,cs,hNI,h2,ho2,ho10⟩
 have hv:=hNI.view 1009
 have hl : cs.length = N:=by rw[hNI.1,L5]
 refine ⟨.inr rfl,?_⟩
 simp only[Tryz.f80,go_sem,h2,ho2,ho10,hl,hv,j7 hl]
set_option maxRecDepth 20000
def L6 (ns : List Int) (most few : Int) : List Int := (ns.take most.toNat).map fun x=>x % (1+few % 5)
theorem ca7 (X) : d9 (EX md0 X) (fun _=>none) 3 Tryz.f12 = true := by kernel_rfl
theorem cx3 (ns : List Int) (most few : Int) (hm : 0≤most∧most≤1000) : Ok Tryz.prog 12 [slI ns,.int .i64 most,.int .i64 few] (slI (L6 ns most few)) := by
 obtain ⟨most,rfl⟩:=Int.eq_ofNat_of_zero_le hm.1
 refine m7 (E:=EX md0 (t7 [(29,D9 RW)])) (cr:=noR) (l8 (t6 _) (n8 bu0)) (q7 _) mixed (k:=most+1) Tryz.func12 (ca7 _) rfl ?_
 have h37 : ∀ a n : Int,0 < n→n≤1000000→t7 [(29,D9 RW)] 29 [.int .i64 a,.int .i64 n] = some (.int .i64 (a % n)):=fun a n h1 h2=>cx2 h1 h2
 have hf0:=Int.emod_nonneg few (show (5 : Int) ≠ 0 by decide)
 have hf5:=Int.emod_lt_of_pos few (show (0 : Int) < 5 by decide)
 simp only[Tryz.f12,Option.getD_some]
 simp (disch:=omega) only[go_sem]
 refine o9 (fun m a o nx=>∃ i,i≤ns.length∧i≤most∧m = most - i∧a 0 = slI ns∧a 1 = .int .i64 most∧a 2 = .int .i64 few∧a 8 = .int .i64 i∧HS 3 1 30 o nx (a 7) i (cI ((ns.take i).map fun x=>x % (1+few % 5)))) most ?_ ?_ ?_
 ·omega
 ·refine ⟨0,by omega,by omega,by omega,?_⟩
  simp (disch:=omega) only[go_sem,List.take_zero]
  exact HS.nil
 ·rintro m a o nx ⟨i,hi,him,rfl,h0,h1,h2,h8,hHS⟩
  by_cases hlt : i < ns.length
  ·by_cases hlm : i < most
   ·have hg:=P6 (s:=1) hlt
    have htk:=q8 hlt 0
    generalize ns.getD i 0 = x at hg htk
    generalize hv : a 7 = v at hHS
    rcases hHS with ⟨rfl,e2,e3⟩ | ⟨i1,g1,rfl,hi1,hrow,hlen⟩
    ·simp (disch:=omega) only[go_sem,h0,h1,h2,h8,hv,hg,h37]
     have e4 : (ns.take i).map (fun x=>x % (1+few % 5)) = []:=V7 e3
     refine ⟨_,?_,i+1,by omega,by omega,rfl,rfl,.inr ⟨nx+1,(nx+1,30),?_,by omega,?_,?_⟩⟩
     ·omega
     ·rw[e2]
     ·rw[htk,List.map_append,e4];simp[b9,cI]
     ·rw[htk,List.map_append,e4,e2];rfl
    ·have hall : (cI ((ns.take i).map fun x=>x % (1+few % 5))).take i = cI ((ns.take i).map fun x=>x % (1+few % 5)):=j7 (by rw[hlen,Nat.mul_one])
     rw[Nat.mul_one] at hlen
     simp (disch:=omega) only[go_sem,h0,h1,h2,h8,hv,hg,hrow,h37,hlen,hall]
     refine ⟨_,?_,i+1,by omega,by omega,rfl,rfl,.inr ⟨i1,(nx+1,30),rfl,by omega,?_,?_⟩⟩
     ·omega
     ·rw[htk,List.map_append,P5];simp[b9,cI]
     ·rw[htk,List.map_append,P5,List.length_append,hlen];simp[cI]
   ·have hie : i = most:=by omega
    have hvw:=hHS.view 1011
    rw[X5] at hvw
    simp (disch:=omega) only[go_sem,h0,h1,h2,h8,hvw]
    have e : ((ns.take i).map fun x=>x % (1+few % 5)) = L6 ns most few:=by rw[hie];rfl
    rw[e]
    have : (L6 ns most few).length = i:=by rw[L6,List.length_map,List.length_take,Int.toNat_natCast];omega
    rw[slI,this]
  ·have hie : i = ns.length:=by omega
   have hvw:=hHS.view 1011
   rw[X5] at hvw
   simp (disch:=omega) only[go_sem,h0,h1,h2,h8,hvw]
   have e : ((ns.take i).map fun x=>x % (1+few % 5)) = L6 ns most few:=by rw[L6,Int.toNat_natCast,List.take_of_length_le (by omega),List.take_of_length_le (by omega)]
   rw[e]
   have : (L6 ns most few).length = i:=by rw[L6,List.length_map,List.length_take,Int.toNat_natCast];omega
   rw[slI,this]
def ca8 (args : List AV) (r : AV) : Prop := ∃ (ns : List Int) (most few : Int),(0≤most∧most≤1000)∧args = [slI ns,.int .i64 most,.int .i64 few]∧r = slI (L6 ns most few)
theorem ca9 : N2 ca8 := by
 rintro args r r' ⟨a,b,c,_,rfl,rfl⟩ ⟨a',b',c',_,h,rfl⟩
 simp only[List.cons.injEq,AV.int.injEq,AV.sl.injEq,true_and,and_true] at h
 obtain ⟨⟨_,h1⟩,h2,h3⟩:=h
 rw[V7 h1,h2,h3]
theorem cb0 (args r) (h : ca8 args r) : Ok Tryz.prog 12 args r := by obtain ⟨a,b,c,h,rfl,rfl⟩ := h;exact cx3 a b c h
theorem bF7 (ns : List Int) (most few : Int) : (L6 ns most few).length≤most.toNat := by rw[L6,List.length_map,List.length_take];omega
set_option maxRecDepth 20000
abbrev S7 (n : Nat) (N : List Int) (A : List Bool) : AV := .agg [.sl n (cI N),slB A]
theorem W0 {n n' : Nat} {N N' : List Int} {A A' : List Bool} (h : S7 n N A = S7 n' N' A') : n = n'∧N = N'∧A = A' := by
 injection h with h
 simp only[List.cons.injEq,AV.sl.injEq,and_true] at h
 exact ⟨h.1.1,V7 h.1.2,ah9 h.2.2⟩
def goD (N : List Int) : Int→List Int→Int
 | s,[]=>s
 | s,m :: w=>if m < 0 ∨ 5≤m then -1 else goD N (N.getD (s.toNat * 5+m.toNat) 0) w
def Z1 (n : Nat) (N : List Int) (s : Int) (w : List Int) : Int := if 0≤s∧s < (n : Int) then goD N s w else -1
def bl0 (n : Nat) (N : List Int) (A : List Bool) (w : List Int) : Bool := if 0≤Z1 n N 0 w then A.getD (Z1 n N 0 w).toNat false else false
structure WfD (n : Nat) (N : List Int) (A : List Bool) : Prop where
 sz : 1≤n∧n≤2000
 l : N.length = 5 * n
 a : A.length = n
 e : ∀ x ∈ N,0≤x∧x < (n : Int)
theorem WfD.get {n N A} (h : WfD n N A) {k : Nat} (hk : k < 5 * n) : 0≤N.getD k 0∧N.getD k 0 < (n : Int) := by
 have hk' : k < N.length:=by rw[h.l];exact hk
 rw[List.getD_eq_getElem?_getD,List.getElem?_eq_getElem hk']
 exact h.e _ (List.getElem_mem ..)
theorem cq0 {n N A} (h : WfD n N A) : ∀ (w : List Int) (s : Int),0≤s→s < (n : Int)→-1≤goD N s w∧goD N s w < (n : Int)
 | [],s,h1,h2=>by rw[goD];omega
 | m :: w,s,h1,h2=>by
  rw[goD]
  by_cases hm : m < 0 ∨ 5≤m
  ·rw[if_pos hm];omega
  ·rw[if_neg hm]
   have:=h.get (k:=s.toNat * 5+m.toNat) (by omega)
   exact cq0 h w _ this.1 this.2
theorem cx4 (X) : d9 (EX md0 X) (fun _=>none) 3 Tryz.f30 = true := by kernel_rfl
theorem cx5 {N : List Int} {w : List Int} {i : Nat} (h : i < w.length) (s : Int) : goD N s (w.drop i) = if w.getD i 0 < 0 ∨ 5≤w.getD i 0 then -1 else goD N (N.getD (s.toNat * 5+(w.getD i 0).toNat) 0) (w.drop (i+1)) := by
 have e : w.getD i 0 = w[i]:=by simp[List.getD,h]
 rw[List.drop_eq_getElem_cons h,goD,e]
theorem cV4 {n : Nat} {N : List Int} {A : List Bool} (hw : WfD n N A) (s : Int) (w : List Int) (hl : w.length≤1000000) : Ok Tryz.prog 30 [S7 n N A,.int .i64 s,slI w] (.int .i64 (Z1 n N s w)) := by
 refine m7 (E:=EX md0 (fun _ _=>none)) (cr:=noR) (t6 _) (q7 _) mixed (k:=1000002) Tryz.func30 (cx4 _) rfl ?_
 have hn:=hw.sz
 have hN:=hw.l
 simp only[Tryz.f30,Option.getD_some]
 unfold Z1
 by_cases hs0 : s < 0
 ·rw[if_neg (by omega)]
  simp (disch:=omega) only[go_sem,hs0]
 by_cases hsn : (n : Int)≤s
 ·rw[if_neg (by omega)]
  simp (disch:=omega) only[go_sem,hs0,hsn]
 rw[if_pos (by omega)]
 simp (disch:=omega) only[go_sem,hs0,hsn]
 refine o9 (fun m a o nx=>∃ (i : Nat) (s' : Int),i≤w.length∧m = w.length - i∧0≤s'∧s' < (n : Int)∧goD N s w = goD N s' (w.drop i)∧a 1 = .int .i64 s'∧a 2 = slI w∧a 3 = .ptr (0,3) (0,3) 0∧a 7 = .int .i64 i∧o (0,3) = some (.row ⟨37,1,(0,3),false,true,[.sl n (cI N),slB A]⟩)) w.length (by omega) ⟨0,s,by omega,by omega,by omega,by omega,rfl,by simp (disch:=omega) only[go_sem],by simp (disch:=omega) only[go_sem],by simp (disch:=omega) only[go_sem],by simp (disch:=omega) only[go_sem],by simp[b9]⟩ ?_
 rintro m a o nx ⟨i,s',hi,rfl,hs1,hs2,hgo,h1,h2,h3,h7,o3⟩
 by_cases hlt : i < w.length
 ·have hg:=P6 (s:=1) hlt
  rw[cx5 hlt] at hgo
  obtain ⟨x,hx⟩ : ∃ x,x = w.getD i 0:=⟨_,rfl⟩
  rw[← hx] at hg hgo
  by_cases hx0 : x < 0
  ·rw[if_pos (.inl hx0)] at hgo
   simp (disch:=omega) only[go_sem,h1,h2,h3,h7,o3,hg,hx0]
   rw[hgo]
  ·by_cases hx5 : 5≤x
   ·rw[if_pos (.inr hx5)] at hgo
    simp (disch:=omega) only[go_sem,h1,h2,h3,h7,o3,hg,hx0,hx5]
    rw[hgo]
   ·rw[if_neg (by omega)] at hgo
    have hk : s'.toNat * 5+x.toNat < N.length:=by omega
    have hat : N4 false 1 (((cI N).drop (s'.toNat * 5)).drop x.toNat) = some (.int .i64 (N.getD (s'.toNat * 5+x.toNat) 0)):=by
     rw[List.drop_drop];exact P6 hk
    have hin:=hw.get (k:=s'.toNat * 5+x.toNat) (by omega)
    simp (disch:=omega) only[go_sem,h1,h2,h3,h7,o3,hg,hx0,hx5,hat]
    exact ⟨_,by omega,i+1,_,by omega,rfl,hin.1,hin.2,hgo,rfl,rfl⟩
 ·rw[List.drop_of_length_le (by omega),goD] at hgo
  simp (disch:=omega) only[go_sem,h1,h2,h3,h7,o3]
  rw[hgo]
set_option maxRecDepth 20000
def dq0 (args : List AV) (r : AV) : Prop := ∃ (n : Nat) (N : List Int) (A : List Bool) (s : Int) (w : List Int),WfD n N A∧w.length≤1000000∧args = [S7 n N A,.int .i64 s,slI w]∧r = .int .i64 (Z1 n N s w)
theorem cx6 : N2 dq0 := by
 rintro args r r' ⟨n,N,A,s,w,_,_,rfl,rfl⟩ ⟨n',N',A',s',w',_,_,h,rfl⟩
 simp only[List.cons.injEq,AV.int.injEq,true_and,and_true] at h
 obtain ⟨h1,h2,h3⟩:=W0 h.1
 rw[h1,h2,h.2.1,ai8 h.2.2]
theorem cb1 (args r) (h : dq0 args r) : Ok Tryz.prog 30 args r := by obtain ⟨n,N,A,s,w,h1,h2,rfl,rfl⟩ := h;exact cV4 h1 s w h2
noncomputable def dq1 : FuncId→List AV→Option AV := t7 [(30,D9 dq0)]
theorem cx7 : s6 Tryz.prog dq1 := l8 (t6 _) (n8 cb1)
theorem bl1 {n : Nat} {N : List Int} {A : List Bool} (h : WfD n N A) (s : Int) (w : List Int) (hl : w.length≤1000000) : dq1 30 [S7 n N A,.int .i64 s,slI w] = some (.int .i64 (Z1 n N s w)) := o8 (R := dq0) cx6 ⟨_,_,_,_,_,h,hl,rfl,rfl⟩
theorem bF8 {n N A} (h : WfD n N A) (s : Int) (w : List Int) : -1≤Z1 n N s w∧Z1 n N s w < (n : Int) := by
 unfold Z1
 split
 ·rename_i hs;exact cq0 h w s hs.1 hs.2
 ·omega
theorem bF9 : d9 (EX md0 dq1) (fun _=>none) 2 Tryz.f13 = true := by kernel_rfl
theorem cb2 {n : Nat} {N : List Int} {A : List Bool} (hw : WfD n N A) (w : List Int) (hl : w.length≤1000000) : Ok Tryz.prog 13 [S7 n N A,slI w] (.bool (bl0 n N A w)) := by
 refine m7 (E:=EX md0 dq1) (cr:=noR) cx7 (q7 _) mixed (k:=0) Tryz.func13 bF9 rfl ?_
 have h1:=bl1 hw 0 w hl
 have h2:=bl1 hw 0 w hl
 have hin:=bF8 hw 0 w
 have ha:=hw.a
 simp only[Tryz.f13,Option.getD_some]
 unfold bl0
 obtain ⟨g,hg⟩ : ∃ g,g = Z1 n N 0 w:=⟨_,rfl⟩
 rw[← hg] at h1 h2 hin ⊢
 by_cases h0 : 0≤g
 ·rw[if_pos h0]
  have hat:=L3 (l:=A) (i:=g.toNat) (s:=1) (by omega)
  simp (disch:=omega) only[go_sem,h1,h2,h0,hat]
 ·rw[if_neg h0]
  simp (disch:=omega) only[go_sem,h1,h2,h0]
set_option maxRecDepth 20000
theorem HS.of {e sz D o nx j g n cs} (hj : j < nx) (h : o (j,D) = some (.row ⟨e,sz,g,false,true,cs⟩)) (hl : cs.length = n * sz) : HS e sz D o nx (.ref (j,D) g 0 n) n cs := .inr ⟨j,g,rfl,hj,h,hl⟩
noncomputable def E4 : Env := EX md0 (fun _ _=>none)
theorem bG0 : s6 Tryz.prog (fun _ _=>none) := t6 _
end Go.Proofs.YtpmjpogcaglphaaGreatDoor.A
