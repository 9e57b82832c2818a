/- What is closed rests on the members alone; machines that read the same are the same. -/
import Derived.Test.YtpmjpogcaglphaaGreatDoorMLMCompiles11
set_option linter.unusedVariables false
set_option linter.unusedSimpArgs false
set_option linter.unnecessarySimpa false
namespace Go.Proofs.YtpmjpogcaglphaaGreatDoor.A
open Go
set_option maxRecDepth 20000
theorem bv5 {N : Nat} {fs : List (Int × Int)} (hin : ∀ p ∈ fs,0≤p.1∧p.1 < (N : Int)) {j : Nat} (hj : j < N) (x : Int) : x ∈ (u5 N fs).getD j [] ↔ ((j : Int),x) ∈ fs := by
 have key : ∀ (l : List (Int × Int)) (rows : List (List Int)),rows.length = N→(∀ p ∈ l,0≤p.1∧p.1 < (N : Int))→(x ∈ (l.foldl P7 rows).getD j [] ↔ x ∈ rows.getD j [] ∨ ((j : Int),x) ∈ l):=fun l=>by
  induction l with
  | nil=>intro rows _ _;simp
  | cons p l ih =>
   intro rows hl hp
   have hp0:=hp p (List.mem_cons_self ..)
   rw[List.foldl_cons,ih _ (by simpa [P7] using hl) (fun q hq=>hp q (List.mem_cons_of_mem _ hq)),P7,D2 _ _ _ _ _ (by omega),List.mem_cons]
   obtain ⟨f,t⟩:=p
   simp only at hp0 ⊢
   by_cases e : f.toNat = j
   ·have : f = (j : Int):=by omega
    subst this
    rw[if_pos e,Int.toNat_natCast,List.mem_append,List.mem_singleton]
    simp only[Prod.mk.injEq,true_and]
    exact or_assoc
   ·rw[if_neg e]
    have : ¬ ((j : Int),x) = (f,t):=fun h=>by injection h with h _;omega
    simp[this]
 have h0 : (List.replicate N ([] : List Int)).getD j [] = []:=by simp[List.getD,List.getElem?_replicate,hj]
 have:=key fs (List.replicate N []) (by simp) hin
 rw[h0] at this
 simpa [u5] using this
theorem Rch.mono {N rows l l'} (h : ∀ s : Nat,(s : Int) ∈ l→s < N→(s : Int) ∈ l') {s} (hr : Rch N rows l s) : Rch N rows l' s := by
 induction hr with
 | base s hm hs=>exact .base s (h s hm hs) hs
 | step s t _ hm ht ih=>exact .step s t ih hm ht
theorem au3 {N rows l l'} (h : ∀ s : Nat,s < N→((s : Int) ∈ l ↔ (s : Int) ∈ l')) : C5 N rows l = C5 N rows l' := by
 refine ab0 (R6 _ _ _) fun s=>?_
 rw[ag5]
 exact ⟨Rch.mono fun s hm hs=>(h s hs).1 hm,Rch.mono fun s hm hs=>(h s hs).2 hm⟩
theorem aw5 {N S F N' S' F' : Int} {ss ss' : List (Int × Int × Int)} {fs fs' : List (Int × Int)} (h : Z0 N S F ss fs = Z0 N' S' F' ss' fs') : N = N'∧S = S'∧F = F'∧ss = ss'∧fs = fs' := by
 simp only[Z0,List.cons.injEq,AV.agg.injEq,AV.int.injEq,AV.sl.injEq,true_and,and_true] at h
 obtain ⟨h1,h2,h3,⟨_,h4⟩,_,h5⟩:=h
 exact ⟨h1,h2,h3,aJ8 h4,au2 h5⟩
set_option maxRecDepth 20000
def aW5 (b : List Bool) : Nat := ((List.range b.length).map fun s=>if b.getD s false then 0 else 1).sum
theorem bv6 {b : List Bool} {s : Nat} (hs : s < b.length) (hb : b.getD s false = false) : aW5 (b.set s true)+1 = aW5 b := by
 unfold aW5
 rw[List.length_set]
 have:=aC6 b.length s hs (fun x=>if (b.set s true).getD x false then 0 else 1) (fun x=>if b.getD x false then 0 else 1) (fun x hx=>by
  rw[D2 _ _ _ _ _ hs,if_neg (show ¬ s = x from fun hc=>hx hc.symm)])
 rw[hb,D2 _ _ _ _ _ hs,if_pos rfl] at this
 rw[if_neg (by simp),if_pos rfl] at this
 omega
theorem bf2 (b : List Bool) : aW5 b+(E0 b).length = b.length := by
 have key : ∀ n,((List.range n).map fun s=>if b.getD s false then 0 else 1).sum+(((List.range n).map fun s=>if b.getD s false then [(s : Int)] else []).flatten).length = n:=fun n=>by
  induction n with
  | zero=>rfl
  | succ n ih =>
   rw[List.range_succ,List.map_append,List.map_append,List.sum_append,List.flatten_append,List.length_append]
   have : ([n].map fun s=>if b.getD s false then 0 else 1).sum+(([n].map fun s=>if b.getD s false then [(s : Int)] else []).flatten).length = 1:=by
    simp only[List.map_cons,List.map_nil,List.sum_cons,List.sum_nil,List.flatten_cons,List.flatten_nil]
    cases b.getD n false <;> rfl
   omega
 exact key b.length
structure Bfs (N : Nat) (rows : List (List Int)) (src : List Int) (b : List Bool) (l : List Int) (i : Nat) : Prop where
 len : b.length = N
 cnt : aW5 b+l.length = N
 mark : ∀ s : Nat,b.getD s false = true ↔ (s : Int) ∈ l
 ok : ∀ x ∈ l,0≤x∧x < (N : Int)
 sound : ∀ s,b.getD s false = true→Rch N rows src s
 base : ∀ s : Nat,(s : Int) ∈ src→s < N→b.getD s false = true
 done : ∀ s : Nat,(s : Int) ∈ l.take i→∀ t : Nat,(t : Int) ∈ rows.getD s []→b.getD t false = true
theorem Bfs.start (rows) (b : List Bool) : Bfs b.length rows (E0 b) b (E0 b) 0 :=
 ⟨rfl,bf2 b,fun s=>by rw[R7];exact ⟨fun h=>⟨s,rfl,h⟩,fun ⟨t,ht,h⟩=>by rwa [show s = t by omega]⟩,fun x hx=>aj2 hx,
  fun s h=>.base s (R7.2 ⟨s,rfl,h⟩) (Decidable.byContradiction fun hs=>by rw[List.getD,List.getElem?_eq_none (by omega)] at h;cases h),
  fun s hm _=>by obtain ⟨t,ht,h⟩:=R7.1 hm;rwa [show s = t by omega],fun s hm=>by simp at hm⟩
theorem Bfs.finish {N rows src b l} (h : Bfs N rows src b l l.length) : b = C5 N rows src := by
 refine ab0 h.len fun s=>⟨h.sound s,fun hr=>?_⟩
 induction hr with
 | base s hm hs=>exact h.base s hm hs
 | step s t _ hm ht ih=>exact h.done s (by rw[List.take_length];exact (h.mark s).1 ih) t hm
theorem Bfs.add {N rows src b l i} (h : Bfs N rows src b l i) (hi : i < l.length) {s t : Nat} (hs : l.getD i 0 = s) (ht : t < N) (hm : (t : Int) ∈ rows.getD s []) (hb : b.getD t false = false) : Bfs N rows src (b.set t true) (l++[(t : Int)]) i := by
 have htl : t < b.length:=by rw[h.len];exact ht
 have hg : ∀ u,(b.set t true).getD u false = true ↔ u = t ∨ b.getD u false = true:=fun u=>by
  rw[D2 _ _ _ _ _ htl]
  by_cases e : t = u
  ·simp[e]
  ·rw[if_neg e];simp[show ¬ u = t from fun hc=>e hc.symm]
 have hsl : (s : Int) ∈ l:=by rw[← hs];exact J6 hi 0
 refine ⟨by simpa using h.len,?_,fun u=>?_,fun x hx=>?_,fun u hu=>?_,fun u hu hn=>(hg u).2 (.inr (h.base u hu hn)),fun u hu v hv=>?_⟩
 ·have:=bv6 htl hb
  have:=h.cnt
  rw[List.length_append,List.length_singleton];omega
 ·rw[hg,List.mem_append,List.mem_singleton,h.mark]
  constructor
  ·rintro (rfl | h)
   ·exact .inr rfl
   ·exact .inl h
  ·rintro (h | h)
   ·exact .inr h
   ·exact .inl (by omega)
 ·rcases List.mem_append.1 hx with hx | hx
  ·exact h.ok x hx
  ·rw[List.mem_singleton.1 hx];omega
 ·rcases (hg u).1 hu with rfl | hu
  ·exact .step s u (h.sound s ((h.mark s).2 hsl)) hm ht
  ·exact h.sound u hu
 ·rw[List.take_append_of_le_length (by omega)] at hu
  exact (hg v).2 (.inr (h.done u hu v hv))
theorem Bfs.next {N rows src b l i} (h : Bfs N rows src b l i) (hi : i < l.length) {s : Nat} (hs : l.getD i 0 = s) (hd : ∀ t : Nat,(t : Int) ∈ rows.getD s []→b.getD t false = true) : Bfs N rows src b l (i+1) :=
 ⟨h.len,h.cnt,h.mark,h.ok,h.sound,h.base,fun u hu t ht=>by
  rw[q8 hi 0,hs,List.mem_append,List.mem_singleton] at hu
  rcases hu with hu | hu
  ·exact h.done u hu t ht
  ·rw[show u = s by omega] at ht;exact hd t ht⟩
def cX2 : Nat→Option (List (Nat × Nat))
 | 13=>some [(2,10),(5,10),(7,10),(2,11)]
 | _=>none
theorem bI9 (md X cr k) (N : Nat) (S F : Int) (ss fs) (hw : Wf N S F ss fs) (is : List Bool) (his : is.length = N) (hk : N+fs.length+1 < k) :
  WP (EX md X) cr k cX2 (Tryz.f87.body.getD .skip) (A2 [Z0 N S F ss fs,slB is]) (fun _=>none) 0 (fun u a o nx=>u = .ret∧A.view o p9 (a 4) = slB (C5 N (u5 N fs) (E0 is))):=by
 have hN:=hw.n
 have hlf:=hw.lf
 simp only[Tryz.f87,Option.getD_some]
 have hz : ([] : List AV).length = 0:=rfl
 simp (disch:=omega) only[go_sem,A2,cX2,his]
 refine o9 (fun m a o nx=>∃ i,i≤N∧m = N - i∧4≤nx∧a 2 = .ptr (0,2) (0,2) 0∧a 5 = .ref (1,14) (1,16) 0 N∧a 7 = .int .i64 i∧HS 3 1 30 o nx (a 6) (E0 (is.take i)).length (cI (E0 (is.take i))) ∧
  o (0,2) = some (.row ⟨62,1,(0,2),false,true,[.int .i64 N,.int .i64 S,.int .i64 F,.sl ss.length (cS ss),.sl fs.length (cP fs)]⟩)∧o (1,14) = some (.row ⟨4,1,(1,16),false,true,cB is⟩)) N ?_ ?_ ?_
 ·omega
 ·refine ⟨0,by omega,by omega,?_⟩
  simp only[go_sem,List.take_zero]
  exact HS.nil
 ·rintro m a o nx ⟨i,hi,rfl,hnx,h2,h5,h7,hHS,ho2,ho14⟩
  by_cases hlt : i < N
  ·have hgb:=L3 (s:=1) (show i < is.length by omega)
   have hsn:=aW3 (show i < is.length by omega)
   have hle:=aq6 (is.take i)
   rw[List.length_take] at hle
   generalize hv : a 6 = v at hHS
   cases hb : is.getD i false with
   | true =>
    rw[hb] at hgb hsn
    rw[if_pos rfl] at hsn
    rcases hHS with ⟨rfl,e2,e3⟩ | ⟨i1,g1,rfl,hi1,hrow,hlen⟩
    ·simp (disch:=omega) only[go_sem,h2,h5,hv,h7,ho2,ho14,hgb,IntWalk.i64_in]
     have e4 : E0 (is.take i) = []:=List.length_eq_zero_iff.1 e2
     refine ⟨_,?_,i+1,by omega,rfl,rfl,.inr ⟨nx+2,(nx+2,30),?_,by omega,?_,?_⟩⟩
     ·omega
     ·rw[hsn,e4];rfl
     ·rw[hsn,e4];simp[b9,cI]
     ·rw[hsn,e4];rfl
    ·simp (disch:=omega) only[go_sem,h2,h5,hv,h7,ho2,ho14,hgb,hrow,IntWalk.i64_in]
     refine ⟨_,?_,i+1,by omega,rfl,rfl,.inr ⟨i1,(nx+2,30),?_,by omega,?_,?_⟩⟩
     ·omega
     ·rw[hsn,List.length_append];rfl
     ·rw[hsn,P5];simp[b9,cI]
     ·rw[l9,Nat.mul_one]
   | false =>
    rw[hb] at hgb hsn
    rw[if_neg (by simp),List.append_nil] at hsn
    simp (disch:=omega) only[go_sem,h2,h5,hv,h7,ho2,ho14,hgb,IntWalk.i64_in]
    exact ⟨_,by omega,i+1,by omega,rfl,by omega,rfl,by rw[hsn];exact hHS.keep (fun _ _=>rfl) (by omega)⟩
  ·have hie : i = N:=by omega
   rw[hie,← his,List.take_length] at hHS
   simp (disch:=omega) only[go_sem,h2,h5,h7,ho2,ho14,aB1,IntWalk.i64_in]
   refine o9 (fun m a o nx'=>∃ i cs,i≤fs.length∧m = fs.length - i∧NI 57 o nx' cs (u5 N (fs.take i))∧nx+3≤nx'∧a 2 = .ptr (0,2) (0,2) 0∧a 5 = .ref (1,14) (1,16) 0 N∧a 8 = .ref (nx+1,33) (nx+1,33) 0 N∧a 9 = .int .i64 i∧HS 3 1 30 o nx' (a 6) (E0 is).length (cI (E0 is)) ∧
    o (0,2) = some (.row ⟨62,1,(0,2),false,true,[.int .i64 N,.int .i64 S,.int .i64 F,.sl ss.length (cS ss),.sl fs.length (cP fs)]⟩)∧o (1,14) = some (.row ⟨4,1,(1,16),false,true,cB is⟩)∧o (nx+1,33) = some (.row ⟨23,1,(nx+1,33),false,true,cs⟩)) fs.length ?_ ?_ ?_
   ·omega
   ·refine ⟨0,List.replicate N .nil,by omega,by omega,NI.start _ _ _ N,by omega,?_⟩
    simp only[go_sem,h2,h5,ho2,ho14]
    exact hHS.keep (fun _ _=>by simp[b9]) (by omega)
   ·clear h2 h5 h7 ho2 ho14 hHS hie
    rintro m a o nx' ⟨i,cs,hi,rfl,hNI,hnx',h2,h5,h8,h9,hHS,ho2,ho14,ho33⟩
    by_cases hlt : i < fs.length
    ·obtain ⟨⟨hf0,hfN⟩,_⟩:=hw.free _ (J6 hlt (0,0))
     have hat:=aV3 hlt
     have htake:=q8 hlt (0,0)
     generalize fs.getD i (0,0) = f at hf0 hfN hat htake
     obtain ⟨f,t⟩:=f
     simp only at hf0 hfN hat htake
     obtain ⟨j,rfl⟩:=Int.eq_ofNat_of_zero_le hf0
     have hrl:=L5 N (fs.take i)
     have hcl : cs.length = N:=by rw[hNI.1,hrl]
     have hjN : j < cs.length:=by omega
     have hH:=hNI.2.1 j (by omega)
     have hget:=au1 (s:=1) hjN
     have hspl : ∀ v,w9 cs j [v] = cs.set j v:=fun v=>Y9 cs j v hjN
     have hnext : u5 N (fs.take (i+1)) = (u5 N (fs.take i)).set j ((u5 N (fs.take i)).getD j []++[t]):=by rw[htake,aB4];rfl
     have hjr : j < (u5 N (fs.take i)).length:=by omega
     generalize hv : cs.getD j .nil = v at hH hget
     have hle:=aB5 N (fs.take i) j
     have hlt' : (fs.take i).length≤fs.length:=by rw[List.length_take];omega
     generalize (u5 N (fs.take i)).getD j [] = r at *
     rcases hH with ⟨rfl,e2,e3⟩ | ⟨i1,g,rfl,hi1,hrow,hlen⟩
     ·simp (disch:=omega) only[go_sem,cX2,h2,h5,h8,h9,ho2,ho14,ho33,hat,hget,hspl,IntWalk.i64_in]
      have e4 : r = []:=List.length_eq_zero_iff.1 e2
      refine ⟨_,?_,i+1,_,by omega,rfl,?_,by omega,rfl,?_,rfl⟩
      ·omega
      ·rw[hnext,e4]
       exact NI.set (l:=[t]) hNI hjr rfl (by omega) (by omega) (.inl ⟨hv,by omega⟩) (fun i' _ h=>by simp[b9,h]) (by simp[b9,cI])
      ·exact hHS.keep (fun _ _=>by simp[b9]) (by omega)
     ·simp (disch:=omega) only[go_sem,cX2,h2,h5,h8,h9,ho2,ho14,ho33,hat,hget,hrow,hspl,IntWalk.i64_in]
      refine ⟨_,?_,i+1,_,by omega,rfl,?_,by omega,rfl,?_,rfl⟩
      ·omega
      ·rw[hnext]
       exact NI.set (l:=r++[t]) hNI hjr (by simp) (by omega) (by omega) (.inr ⟨_,_,hv⟩) (fun i' _ h=>by simp[b9,h]) (by simp[b9,cI])
      ·exact hHS.keep (fun _ _=>by simp[b9]) (by omega)
    ·have e : i = fs.length:=by omega
     subst e
     rw[List.take_length] at hNI
     have hrl:=L5 N fs
     have hcl : cs.length = N:=by rw[hNI.1,hrl]
     have hrows:=fun j (hj : j < N) x=>bv5 (fs:=fs) (fun p hp=>(hw.free p hp).1) hj x
     have hrle:=aB5 N fs
     generalize u5 N fs = rows at *
     generalize hv : a 6 = v at hHS
     simp (disch:=omega) only[go_sem,h2,h5,h8,h9,ho2,ho14,ho33,hv,IntWalk.i64_in]
     refine o9 (fun m a o nx''=>∃ i b g l,Bfs N rows (E0 is) b l i∧i≤l.length∧m = N - i∧NI 57 o nx'' cs rows∧nx+3≤nx''∧a 2 = .ptr (0,2) (0,2) 0∧a 5 = .ref (1,14) g 0 N∧a 8 = .ref (nx+1,33) (nx+1,33) 0 N∧a 11 = .int .i64 i∧HS 3 1 30 o nx'' (a 6) l.length (cI l) ∧
      o (1,14) = some (.row ⟨4,1,g,false,true,cB b⟩)∧o (nx+1,33) = some (.row ⟨23,1,(nx+1,33),false,true,cs⟩)) N ?_ ?_ ?_
     ·omega
     ·refine ⟨0,is,(1,16),E0 is,by rw[← his];exact Bfs.start rows is,by omega,by omega,hNI.keep (fun _ _=>rfl) (by omega),by omega,?_⟩
      simp only[go_sem,h2,h5,h8,ho14,ho33,hv]
      exact hHS.keep (fun _ _=>rfl) (by omega)
     ·clear h2 h5 h8 h9 ho2 ho14 ho33 hHS hv hNI
      rintro m a o nx'' ⟨i,b,g,l,hB,hi,rfl,hNI,hnx'',h2,h5,h8,h11,hHS,ho14,ho33⟩
      have hlN : l.length≤N:=by have:=hB.cnt;omega
      by_cases hlt : i < l.length
      ·generalize hv : a 6 = v at hHS
       have hHS':=hHS
       rcases hHS with ⟨_,e2,_⟩ | ⟨i1,g1,rfl,hi1,hrow,hlen⟩
       ·omega
       obtain ⟨hs0,hsN⟩:=hB.ok _ (J6 hlt 0)
       obtain ⟨s,hs⟩:=Int.eq_ofNat_of_zero_le hs0
       have hsN : s < N:=by omega
       simp (disch:=omega) only[go_sem,h2,h5,h8,h11,ho14,ho33,hv,hrow,IntWalk.i64_in]
       refine o9 (fun m a o nx''=>∃ j b g l,Bfs N rows (E0 is) b l i∧i < l.length∧l.getD i 0 = s∧j≤(rows.getD s []).length∧(∀ t : Nat,(t : Int) ∈ (rows.getD s []).take j→b.getD t false = true)∧m = (rows.getD s []).length - j∧NI 57 o nx'' cs rows∧nx+3≤nx''∧a 2 = .ptr (0,2) (0,2) 0∧a 5 = .ref (1,14) g 0 N∧a 8 = .ref (nx+1,33) (nx+1,33) 0 N∧a 11 = .int .i64 i∧a 12 = .int .i64 j∧HS 3 1 30 o nx'' (a 6) l.length (cI l) ∧
        o (1,14) = some (.row ⟨4,1,g,false,true,cB b⟩)∧o (nx+1,33) = some (.row ⟨23,1,(nx+1,33),false,true,cs⟩)) (rows.getD s []).length ?_ ?_ ?_
       ·have:=hrle s;omega
       ·refine ⟨0,b,g,l,hB,hlt,hs,by omega,fun t ht=>by simp at ht,by omega,hNI.keep (fun _ _=>rfl) (by omega),by omega,?_⟩
        simp only[go_sem,h2,h5,h8,h11,ho14,ho33,hv]
        exact hHS'.keep (fun _ _=>rfl) (by omega)
       ·clear h2 h5 h8 h11 ho14 ho33 hHS' hv hNI hrow hlen
        rintro m a o nx'' ⟨j,b,g,l,hB,hlt,hs,hj,hdn,rfl,hNI,hnx'',h2,h5,h8,h11,h12,hHS,ho14,ho33⟩
        have hlN : l.length≤N:=by have:=hB.cnt;omega
        have hbl:=hB.len
        generalize hv : a 6 = v at hHS
        have hHS':=hHS
        rcases hHS with ⟨_,e2,_⟩ | ⟨i1,g1,rfl,hi1,hrow,hlen⟩
        ·omega
        have hgl:=P6 (s:=1) hlt
        rw[hs] at hgl
        have hrs:=hrle s
        have hH:=hNI.2.1 s (by omega)
        have hget:=au1 (s:=1) (show s < cs.length by omega)
        generalize hv2 : cs.getD s .nil = v2 at hH hget
        rcases hH with ⟨rfl,e2,e3⟩ | ⟨i2,g2,rfl,hi2,hrow2,hlen2⟩
        ·have : j = 0:=by omega
         subst this
         simp (disch:=omega) only[go_sem,h2,h5,h8,h11,h12,ho14,ho33,hv,hrow,hgl,hget,IntWalk.i64_in]
         have e4 : rows.getD s [] = []:=List.length_eq_zero_iff.1 e2
         exact ⟨_,by omega,i+1,b,g,l,hB.next hlt hs (fun t ht=>by rw[e4] at ht;cases ht),by omega,rfl,hNI.keep (fun _ _=>rfl) (by omega),by omega,rfl,rfl,hHS'.keep (fun _ _=>rfl) (by omega),rfl⟩
        ·by_cases hjl : j < (rows.getD s []).length
         ·have hgr:=P6 (s:=1) hjl
          have htk:=q8 hjl 0
          have hmem:=J6 hjl 0
          have hmem2:=(hrows s hsN _).1 hmem
          obtain ⟨_,ht0,htN⟩:=hw.free _ hmem2
          obtain ⟨t,ht⟩:=Int.eq_ofNat_of_zero_le ht0
          simp only at ht htN
          rw[ht] at hgr htk hmem htN
          have htN : t < N:=by omega
          have hgb:=L3 (s:=1) (show t < b.length by omega)
          cases hbt : b.getD t false with
          | true =>
           rw[hbt] at hgb
           simp (disch:=omega) only[go_sem,h2,h5,h8,h11,h12,ho14,ho33,hv,hrow,hrow2,hgl,hget,hgr,hgb,IntWalk.i64_in]
           refine ⟨_,?_,j+1,b,g,l,hB,hlt,hs,by omega,fun u hu=>?_,rfl,hNI.keep (fun _ _=>rfl) (by omega),by omega,rfl,rfl,hHS'.keep (fun _ _=>rfl) (by omega),rfl⟩
           ·omega
           ·rw[htk,List.mem_append,List.mem_singleton] at hu
            rcases hu with hu | hu
            ·exact hdn u hu
            ·rw[show u = t by omega];exact hbt
          | false =>
           rw[hbt] at hgb
           have hset:=aB2 b t true (by omega)
           simp (disch:=omega) only[go_sem,h2,h5,h8,h11,h12,ho14,ho33,hv,hrow,hrow2,hgl,hget,hgr,hgb,hset,IntWalk.i64_in]
           have hgl' : (l++[(t : Int)]).getD i 0 = s:=by rw[← hs];simp[List.getD,List.getElem?_append_left hlt]
           refine ⟨_,?_,j+1,b.set t true,g,l++[(t : Int)],hB.add hlt hs htN hmem hbt,by rw[List.length_append];omega,hgl',by omega,fun u hu=>?_,rfl,hNI.keep (fun _ _=>by simp[b9]) (by omega),by omega,rfl,rfl,.inr ⟨i1,(nx''+4,98),by rw[List.length_append];rfl,by omega,?_,by rw[l9,Nat.mul_one]⟩,rfl⟩
           ·omega
           ·rw[D2 _ _ _ _ _ (by omega)]
            split
            ·rfl
            ·rename_i hne
             rw[htk,List.mem_append,List.mem_singleton] at hu
             rcases hu with hu | hu
             ·exact hdn u hu
             ·exact absurd (show t = u by omega) hne
           ·rw[P5];simp[b9,cI]
         ·simp (disch:=omega) only[go_sem,h2,h5,h8,h11,h12,ho14,ho33,hv,hrow,hrow2,hgl,hget,IntWalk.i64_in]
          have hje : j = (rows.getD s []).length:=by omega
          rw[hje,List.take_length] at hdn
          exact ⟨_,by omega,i+1,b,g,l,hB.next hlt hs hdn,by omega,rfl,hNI.keep (fun _ _=>rfl) (by omega),by omega,rfl,rfl,hHS'.keep (fun _ _=>rfl) (by omega),rfl⟩
      ·have hie : i = l.length:=by omega
       subst hie
       rw[← hB.finish]
       have hall : (cB b).take N = cB b:=by rw[← hB.len];exact cU8 b
       have hbl:=hB.len
       generalize hv : a 6 = v at hHS
       rcases hHS with ⟨rfl,e2,_⟩ | ⟨i1,g1,rfl,hi1,hrow,hlen⟩
       ·simp (disch:=omega) only[go_sem,h2,h5,h8,h11,ho14,ho33,hv,hbl,hall,IntWalk.i64_in]
        rw[slB,hbl]
       ·simp (disch:=omega) only[go_sem,h2,h5,h8,h11,ho14,ho33,hv,hbl,hall,IntWalk.i64_in]
        rw[slB,hbl]
theorem cX3 (X) : d9 (EX md0 X) cX2 2 Tryz.f87 = true := by kernel_rfl
theorem bJ0 (N : Nat) (S F : Int) (ss fs) (hw : Wf N S F ss fs) (is : List Bool) (his : is.length = N) : Ok Tryz.prog 87 [Z0 N S F ss fs,slB is] (slB (C5 N (u5 N fs) (E0 is))) := by
 refine m7 (E:=EX md0 (fun _ _=>none)) (cr:=noR) (t6 _) (q7 _) mixed (k:=N+fs.length+2) Tryz.func87 (cX3 _) rfl (U2 (bI9 _ _ _ _ N S F ss fs hw is his (by omega)) ?_)
 rintro u a o nx ⟨rfl,h⟩
 exact ⟨.inr rfl,h⟩
set_option maxRecDepth 20000
theorem aO5 {x y : List Bool} (h : slB x = slB y) : x = y := by
 unfold slB at h;injection h with _ h;exact ah9 h
def R46 (args : List AV) (r : AV) : Prop := ∃ (N : Nat) (S F : Int) (ss : List (Int × Int × Int)) (fs : List (Int × Int)) (is : List Bool),Wf N S F ss fs∧is.length = N∧args = [Z0 N S F ss fs,slB is]∧r = slB (C5 N (u5 N fs) (E0 is))
theorem cX4 : N2 R46 := by
 rintro args r r' ⟨N,S,F,ss,fs,is,_,_,rfl,rfl⟩ ⟨N',S',F',ss',fs',is',_,_,h,rfl⟩
 simp only[Z0,List.cons.injEq,AV.agg.injEq,AV.int.injEq,AV.sl.injEq,true_and,and_true] at h
 obtain ⟨⟨h1,_,_,_,_,h2⟩,_,h3⟩:=h
 have h1 : N = N':=by omega
 rw[h1,au2 h2,ah9 h3]
theorem cX5 (args r) (h : R46 args r) : Ok Tryz.prog 87 args r := by
 obtain ⟨N,S,F,ss,fs,is,h1,h2,rfl,rfl⟩:=h
 exact bJ0 N S F ss fs h1 is h2
theorem aG7 {N : Nat} {l : List Int} (h : ∀ x ∈ l,0≤x∧x < (N : Int)) (s : Nat) : (s : Int) ∈ E0 (Z4 N l) ↔ (s : Int) ∈ l := by
 rw[R7,← aW4 N l h s]
 exact ⟨fun ⟨t,ht,hb⟩=>by rwa [show s = t by omega],fun hb=>⟨s,rfl,hb⟩⟩
theorem aC7 {N : Nat} {rows : List (List Int)} {l : List Int} (h : ∀ x ∈ l,0≤x∧x < (N : Int)) : C5 N rows (E0 (Z4 N l)) = C5 N rows l := au3 fun s _=>aG7 h s
noncomputable def X29 : FuncId→List AV→Option AV := t7 [(87,D9 R46)]
theorem cq3 : s6 Tryz.prog X29 := l8 (t6 _) (n8 cX5)
theorem cq4 {N : Nat} {S F : Int} {ss fs} (hw : Wf N S F ss fs) (is : List Bool) (h : is.length = N) : X29 87 [Z0 N S F ss fs,.sl N (cB is)] = some (slB (C5 N (u5 N fs) (E0 is))) := by
 show D9 R46 _ = _
 exact o8 cX4 ⟨N,S,F,ss,fs,is,hw,h,by rw[slB,h],rfl⟩
theorem cX6 (X) : d9 (EX md0 X) (fun _=>none) 1 Tryz.f60 = true := by kernel_rfl
theorem cd2 (N : Nat) (S F : Int) (ss) (fs : List (Int × Int)) (hw : Wf N S F ss fs) : Ok Tryz.prog 60 [Z0 N S F ss fs] (slB (C5 N (u5 N fs) [S])) := by
 refine m7 (E:=EX md0 X29) (cr:=noR) cq3 (q7 _) mixed (k:=0) Tryz.func60 (cX6 _) rfl ?_
 have hN:=hw.n
 have hS:=hw.s
 obtain ⟨S,rfl⟩:=Int.eq_ofNat_of_zero_le hS.1
 have hset:=aB2 (List.replicate N false) S true (by simp;omega)
 have hm : (List.replicate N false).set S true = Z4 N [(S : Int)]:=rfl
 rw[hm] at hset
 have hml:=ae1 N [(S : Int)]
 have h46:=cq4 hw (Z4 N [(S : Int)]) hml
 have hall : (cB (Z4 N [(S : Int)])).take N = cB (Z4 N [(S : Int)]):=j7 (by rw[A3];exact hml)
 rw[aC7 (fun x hx=>by rw[List.mem_singleton.1 hx];exact hS)] at h46
 simp only[Tryz.f60,Option.getD_some]
 simp (disch:=omega) only[go_sem,J5,hset,hml,h46,hall]
theorem cX7 (X) : d9 (EX md0 X) (fun _=>none) 3 Tryz.f61 = true := by kernel_rfl
theorem cy9 (N : Nat) (S F : Int) (ss) (fs : List (Int × Int)) (hw : Wf N S F ss fs) (b : List Bool) (hb : b.length = N) (m : Int) : Ok Tryz.prog 61 [Z0 N S F ss fs,slB b,.int .i64 m] (slB (aq7 N (u5 N fs) ss b m)) := by
 refine m7 (E:=EX md0 X29) (cr:=noR) cq3 (q7 _) mixed (k:=ss.length+1) Tryz.func61 (cX7 _) rfl ?_
 have hN:=hw.n
 have hls:=hw.ls
 have h46:=cq4 hw
 simp only[Tryz.f61,Option.getD_some]
 simp (disch:=omega) only[go_sem,J5]
 refine o9 (fun v a o nx=>∃ i,i≤ss.length∧v = ss.length - i∧2≤nx∧a 1 = slB b∧a 2 = .int .i64 m∧a 3 = .ptr (0,3) (0,3) 0∧a 7 = .ref (1,12) (1,12) 0 N∧a 8 = .int .i64 i ∧
  o (0,3) = some (.row ⟨62,1,(0,3),false,true,[.int .i64 N,.int .i64 S,.int .i64 F,.sl ss.length (cS ss),.sl fs.length (cP fs)]⟩)∧o (1,12) = some (.row ⟨4,1,(1,12),false,true,cB (Z4 N (L7 (ss.take i) b m))⟩)) ss.length ?_ ?_ ?_
 ·omega
 ·refine ⟨0,by omega,by omega,by omega,?_⟩
  simp (disch:=omega) only[go_sem,List.take_zero]
  rfl
 ·rintro v a o nx ⟨i,hi,rfl,hnx,h1,h2,h3,h7,h8,ho3,ho12⟩
  have hml:=ae1 N (L7 (ss.take i) b m)
  by_cases hlt : i < ss.length
  ·have hat:=cx1 hlt
   obtain ⟨⟨q1,q2⟩,q3,q4⟩:=hw.steps _ (J6 hlt (0,0,0))
   have htk:=q8 hlt (0,0,0)
   generalize ss.getD i (0,0,0) = p at hat q1 q2 q3 q4 htk
   obtain ⟨f,t,set⟩:=p
   simp only at hat q1 q2 q3 q4
   obtain ⟨f,rfl⟩:=Int.eq_ofNat_of_zero_le q1
   obtain ⟨t,rfl⟩:=Int.eq_ofNat_of_zero_le q3
   have hgb:=L3 (s:=1) (show f < b.length by omega)
   have hsn : L7 (ss.take (i+1)) b m = L7 (ss.take i) b m++(if leads b m (↑f,↑t,set) then [(t : Int)] else []):=by rw[htk,bf1]
   have hld : leads b m (↑f,↑t,set) = (b.getD f false && (decide (0≤m) && decide (m < 5) && I9 set m)):=rfl
   have hset:=aB2 (Z4 N (L7 (ss.take i) b m)) t true (by omega)
   by_cases hm0 : 0≤m
   ·by_cases hm5 : m < 5
    ·rw[decide_eq_true hm0,decide_eq_true hm5] at hld
     cases hbf : b.getD f false with
     | false =>
      rw[hbf] at hgb hld
      rw[hld] at hsn
      simp only[Bool.false_and,Bool.false_eq_true,if_false,List.append_nil] at hsn
      simp (disch:=omega) only[go_sem,h1,h2,h3,h7,h8,ho3,ho12,hat,hgb]
      exact ⟨_,by omega,i+1,by omega,rfl,rfl,by rw[hsn]⟩
     | true =>
      rw[hbf] at hgb hld
      rw[hld] at hsn
      cases hm : I9 set m with
      | true =>
       rw[hm] at hsn
       simp only[I9,decide_eq_true_eq] at hm
       simp only[Bool.and_self,if_true] at hsn
       simp (disch:=omega) only[go_sem,h1,h2,h3,h7,h8,ho3,ho12,hat,hgb,hm,hml,hset]
       exact ⟨_,by omega,i+1,by omega,rfl,rfl,by rw[hsn,bv4];rfl⟩
      | false =>
       rw[hm] at hsn
       simp only[I9,decide_eq_false_iff_not] at hm
       simp only[Bool.and_self,Bool.and_false,Bool.false_eq_true,if_false,List.append_nil] at hsn
       simp (disch:=omega) only[go_sem,h1,h2,h3,h7,h8,ho3,ho12,hat,hgb,hm]
       exact ⟨_,by omega,i+1,by omega,rfl,rfl,by rw[hsn]⟩
    ·rw[hld,decide_eq_false hm5] at hsn
     simp only[Bool.and_false,Bool.false_and,Bool.false_eq_true,if_false,List.append_nil] at hsn
     simp (disch:=omega) only[go_sem,h1,h2,h3,h7,h8,ho3,ho12,hat]
     exact ⟨_,by omega,i+1,by omega,rfl,rfl,by rw[hsn]⟩
   ·rw[hld,decide_eq_false hm0] at hsn
    simp only[Bool.and_false,Bool.false_and,Bool.false_eq_true,if_false,List.append_nil] at hsn
    simp (disch:=omega) only[go_sem,h1,h2,h3,h7,h8,ho3,ho12,hat]
    exact ⟨_,by omega,i+1,by omega,rfl,rfl,by rw[hsn]⟩
  ·have hie : i = ss.length:=by omega
   rw[hie,List.take_length] at ho12 hml
   have hin : ∀ x ∈ L7 ss b m,0≤x∧x < (N : Int):=fun x hx=>by
    obtain ⟨p,hp,rfl⟩:=List.mem_map.1 hx
    exact (hw.steps p (List.mem_filter.1 hp).1).2
   have h46':=h46 _ hml
   rw[aC7 hin] at h46'
   have hall : (cB (Z4 N (L7 ss b m))).take N = cB (Z4 N (L7 ss b m)):=j7 (by rw[A3];exact hml)
   simp (disch:=omega) only[go_sem,h1,h2,h3,h7,h8,ho3,ho12,h46',hall,hml]
   rfl
set_option maxRecDepth 20000
def R43 (args : List AV) (r : AV) : Prop := ∃ (N : Nat) (S F : Int) (ss : List (Int × Int × Int)) (fs : List (Int × Int)),Wf N S F ss fs∧args = [Z0 N S F ss fs]∧r = slB (C5 N (u5 N fs) [S])
theorem cX8 : N2 R43 := by
 rintro args r r' ⟨N,S,F,ss,fs,_,rfl,rfl⟩ ⟨N',S',F',ss',fs',_,h,rfl⟩
 simp only[List.cons.injEq,and_true] at h
 obtain ⟨h1,h2,h3,h4,h5⟩:=aw5 h
 have h1 : N = N':=by omega
 rw[h1,h2,h5]
theorem cX9 (args r) (h : R43 args r) : Ok Tryz.prog 60 args r := by
 obtain ⟨N,S,F,ss,fs,h1,rfl,rfl⟩:=h
 exact cd2 N S F ss fs h1
def R44 (args : List AV) (r : AV) : Prop := ∃ (N : Nat) (S F : Int) (ss : List (Int × Int × Int)) (fs : List (Int × Int)) (b : List Bool) (m : Int),Wf N S F ss fs∧b.length = N∧args = [Z0 N S F ss fs,slB b,.int .i64 m]∧r = slB (aq7 N (u5 N fs) ss b m)
theorem cY0 : N2 R44 := by
 rintro args r r' ⟨N,S,F,ss,fs,b,m,_,_,rfl,rfl⟩ ⟨N',S',F',ss',fs',b',m',_,_,h,rfl⟩
 simp only[List.cons.injEq,and_true,AV.int.injEq,true_and] at h
 obtain ⟨h1,h2,h3,h4,h5⟩:=aw5 h.1
 have h1 : N = N':=by omega
 rw[h1,h4,h5,aO5 h.2.1,h.2.2]
theorem cY1 (args r) (h : R44 args r) : Ok Tryz.prog 61 args r := by
 obtain ⟨N,S,F,ss,fs,b,m,h1,h2,rfl,rfl⟩:=h
 exact cy9 N S F ss fs h1 b h2 m
def aj3 (n : Nat) : List UInt8 := if n < 10 then [UInt8.ofNat (48+n)] else if n < 100 then [UInt8.ofNat (48+n / 10),UInt8.ofNat (48+n % 10)] else [UInt8.ofNat (48+n / 100),UInt8.ofNat (48+n / 10 % 10),UInt8.ofNat (48+n % 10)]
def deI (l : List UInt8) : Nat := l.foldl (fun a c=>10 * a+(c.toNat - 48)) 0
theorem cz0 : ((List.range 1000).all fun n=>decide (deI (aj3 n) = n)) = true := by decide +kernel
theorem cd3 : ((List.range 1000).all fun n=>decide ((32 : UInt8) ∉ aj3 n)) = true := by decide +kernel
theorem bm4 {n : Nat} (h : n < 1000) : deI (aj3 n) = n := by
 have:=List.all_eq_true.1 cz0 n (List.mem_range.2 h)
 exact of_decide_eq_true this
theorem dT1 {n : Nat} (h : n < 1000) : (32 : UInt8) ∉ aj3 n := by
 have:=List.all_eq_true.1 cd3 n (List.mem_range.2 h)
 exact of_decide_eq_true this
def V2 (l : List Int) : List UInt8 := l.flatMap fun x=>aj3 x.toNat++[32]
theorem bv7 (l : List Int) (x : Int) : V2 (l++[x]) = V2 l++aj3 x.toNat++[32] := by simp[V2]
theorem bJ1 {x : UInt8} : ∀ {a b u v : List UInt8},x ∉ a→x ∉ b→a++x :: u = b++x :: v→a = b∧u = v
 | [],[],_,_,_,_,h=>⟨rfl,by simpa using h⟩
 | [],c :: b,_,_,_,hb,h=>by
  simp only[List.nil_append,List.cons_append,List.cons.injEq] at h
  exact absurd (h.1 ▸ List.mem_cons_self ..) hb
 | c :: a,[],_,_,ha,_,h=>by
  simp only[List.nil_append,List.cons_append,List.cons.injEq] at h
  exact absurd (h.1 ▸ List.mem_cons_self ..) ha
 | c :: a,d :: b,u,v,ha,hb,h=>by
  simp only[List.cons_append,List.cons.injEq] at h
  obtain ⟨h1,h2⟩:=bJ1 (fun hm=>ha (List.mem_cons_of_mem _ hm)) (fun hm=>hb (List.mem_cons_of_mem _ hm)) h.2
  exact ⟨by rw[h.1,h1],h2⟩
theorem aW6 : ∀ {l l' : List Int},(∀ x ∈ l,0≤x∧x < 1000)→(∀ x ∈ l',0≤x∧x < 1000)→V2 l = V2 l'→l = l'
 | [],[],_,_,_=>rfl
 | [],y :: l',_,_,h=>by simp[V2] at h
 | x :: l,[],_,_,h=>by simp[V2] at h
 | x :: l,y :: l',h1,h2,h=>by
  have hx:=h1 x (List.mem_cons_self ..)
  have hy:=h2 y (List.mem_cons_self ..)
  have e : aj3 x.toNat++32 :: V2 l = aj3 y.toNat++32 :: V2 l':=by simpa [V2] using h
  obtain ⟨e1,e2⟩:=bJ1 (x:=32) (dT1 (by omega)) (dT1 (by omega)) e
  have e3 : x.toNat = y.toNat:=by rw[← bm4 (n:=x.toNat) (by omega),e1,bm4 (by omega)]
  rw[aW6 (fun z hz=>h1 z (List.mem_cons_of_mem _ hz)) (fun z hz=>h2 z (List.mem_cons_of_mem _ hz)) e2,show x = y by omega]
theorem cd4 {a b : List Bool} (hl : a.length = b.length) (h : E0 a = E0 b) : a = b := by
 rw[← aK7 a,← aK7 b,hl,h]
def nm (b : List Bool) : AV := .str (V2 (E0 b))
def Q0 (n : Nat) (S : List (List Bool)) : List (AV × AV) := (S.zipIdx n).map fun p=>(nm p.1,.int .i64 p.2)
abbrev aK8 (S : List (List Bool)) : List (AV × AV) := Q0 0 S
theorem aG8 (n S b) : Q0 n (S++[b]) = Q0 n S++[(nm b,.int .i64 ((n+S.length : Nat) : Int))] := by
 unfold Q0
 rw[List.zipIdx_append]
 simp
theorem cd5 {N : Nat} (hN : N≤1000) {a b : List Bool} (ha : a.length = N) (hb : b.length = N) : W9 (nm a) (nm b) = some (decide (a = b)) := by
 have : (V2 (E0 a) == V2 (E0 b)) = decide (a = b):=by
  rw[Bool.eq_iff_iff,beq_iff_eq,decide_eq_true_iff]
  refine ⟨fun h=>cd4 (by omega) (aW6 (fun x hx=>?_) (fun x hx=>?_) h),fun h=>by rw[h]⟩
  ·have:=aj2 hx;omega
  ·have:=aj2 hx;omega
 unfold nm W9
 exact congrArg some this
theorem aj4 {N : Nat} (hN : N≤1000) {t : List Bool} (ht : t.length = N) : ∀ {S : List (List Bool)} {n : Nat},(∀ b ∈ S,b.length = N)→T5 (nm t) (Q0 n S) = some (if t ∈ S then some (.int .i64 ((n+S.idxOf t : Nat) : Int)) else none)
 | [],n,_=>rfl
 | b :: S,n,h=>by
  have ih:=aj4 hN ht (S:=S) (n:=n+1) (fun c hc=>h c (List.mem_cons_of_mem _ hc))
  have he:=cd5 hN ht (h b (List.mem_cons_self ..))
  have hcons : Q0 n (b :: S) = (nm b,.int .i64 (n : Int)) :: Q0 (n+1) S:=by simp[Q0,List.zipIdx_cons]
  rw[hcons]
  simp only[T5,he,ih]
  by_cases hb : t = b
  ·subst hb
   rw[decide_eq_true (rfl : t = t),if_pos (List.mem_cons_self ..),List.idxOf_cons_self]
   rfl
  ·have hb' : ¬ b = t:=fun e=>hb e.symm
   have hi : (b :: S).idxOf t = S.idxOf t+1:=by
    rw[List.idxOf_cons,beq_false_of_ne hb']
    rfl
   simp only[hb,decide_false,hi,List.mem_cons,false_or]
   rw[show n+1+S.idxOf t = n+(S.idxOf t+1) by omega]
theorem bv8 {N : Nat} (hN : N≤1000) {t : List Bool} (ht : t.length = N) {S : List (List Bool)} (h : ∀ b ∈ S,b.length = N) (hn : t ∉ S) : aR9 (nm t) (.int .i64 (S.length : Int)) (aK8 S) = aK8 (ao6 S t) := by
 have hf:=aj4 hN ht (n:=0) h
 rw[if_neg hn] at hf
 rw[(Y6 hf).2,al8 S t hn]
 unfold aK8
 rw[aG8,Nat.zero_add]
end Go.Proofs.YtpmjpogcaglphaaGreatDoor.A
