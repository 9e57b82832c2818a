/- close: the states to which free steps lead. -/
import Derived.Test.YtpmjpogcaglphaaGreatDoorMLMCompiles7
set_option linter.unusedVariables false
set_option linter.unusedSimpArgs false
set_option linter.unnecessarySimpa false
namespace Go.Proofs.YtpmjpogcaglphaaGreatDoor.A
open Go
set_option maxRecDepth 20000
inductive Rch (N : Nat) (rows : List (List Int)) (l : List Int) : Nat→Prop
 | base (s : Nat) (h : (s : Int) ∈ l) (hs : s < N) : Rch N rows l s
 | step (s t : Nat) (h : Rch N rows l s) (hm : (t : Int) ∈ rows.getD s []) (ht : t < N) : Rch N rows l t
theorem Rch.lt {N rows l s} (h : Rch N rows l s) : s < N := by cases h <;> assumption
open Classical in
noncomputable def C5 (N : Nat) (rows : List (List Int)) (l : List Int) : List Bool := (List.range N).map fun s=>decide (Rch N rows l s)
def E0 (b : List Bool) : List Int := ((List.range b.length).map fun s=>if b.getD s false then [(s : Int)] else []).flatten
theorem R6 (N rows l) : (C5 N rows l).length = N := by simp[C5]
theorem ag5 (N rows l s) : (C5 N rows l).getD s false = true ↔ Rch N rows l s := by
 classical
 simp only[C5,List.getD,List.getElem?_map,List.getElem?_range']
 by_cases h : s < N
 ·simp[h]
 ·simp only[List.getElem?_eq_none (show (List.range N).length≤s by simp;omega)]
  simp
  exact fun hc=>h hc.lt
theorem ab0 {N rows l} {b : List Bool} (hl : b.length = N) (h : ∀ s,b.getD s false = true ↔ Rch N rows l s) : b = C5 N rows l := by
 refine List.ext_getElem (by rw[hl,R6]) fun s h1 h2=>?_
 have e1 : b.getD s false = b[s]:=by simp[List.getD,h1]
 have e2 : (C5 N rows l).getD s false = (C5 N rows l)[s]:=by simp[List.getD,h2]
 rw[Bool.eq_iff_iff,← e1,← e2,h,ag5]
def aR6 (rows : List (List Int)) (b : List Bool) : Nat := ((List.range b.length).map fun s=>if b.getD s false then 0 else (rows.getD s []).length).sum
theorem bv1 {α : Type} (l : List α) (f g : α→Nat) (h : ∀ x ∈ l,f x≤g x) : (l.map f).sum≤(l.map g).sum := by
 induction l with
 | nil=>simp
 | cons x l ih =>
  have:=h x (List.mem_cons_self ..)
  have:=ih fun y hy=>h y (List.mem_cons_of_mem _ hy)
  simp;omega
theorem aC6 (n s : Nat) (hs : s < n) (f g : Nat→Nat) (h : ∀ x,x ≠ s→f x = g x) : ((List.range n).map f).sum+g s = ((List.range n).map g).sum+f s := by
 induction n with
 | zero=>omega
 | succ n ih =>
  simp only[List.range_succ,List.map_append,List.sum_append,List.map_cons,List.map_nil,List.sum_cons,List.sum_nil]
  by_cases e : s = n
  ·subst e
   have : (List.range s).map f = (List.range s).map g:=List.map_congr_left fun x hx=>h x (by have:=List.mem_range.1 hx;omega)
   rw[this];omega
  ·have:=ih (by omega)
   have:=h n (fun hc=>e hc.symm)
   omega
theorem cc8 {rows : List (List Int)} {b : List Bool} {s : Nat} (hs : s < b.length) (hb : b.getD s false = false) : aR6 rows (b.set s true)+(rows.getD s []).length = aR6 rows b := by
 unfold aR6
 rw[List.length_set]
 have:=aC6 b.length s hs (fun x=>if (b.set s true).getD x false then 0 else (rows.getD x []).length) (fun x=>if b.getD x false then 0 else (rows.getD x []).length) (fun x hx=>by
  rw[D2 _ _ _ _ _ hs,if_neg (show ¬ s = x from fun hc=>hx hc.symm)])
 rw[hb,D2 _ _ _ _ _ hs,if_pos rfl] at this
 rw[if_neg (by simp),if_pos rfl] at this
 omega
structure Mid (N : Nat) (rows : List (List Int)) (l : List Int) (b : List Bool) (st : List Int) : Prop where
 len : b.length = N
 sound : ∀ s,b.getD s false = true→Rch N rows l s
 wait : ∀ s : Nat,(s : Int) ∈ st→s < N→Rch N rows l s
 base : ∀ s : Nat,(s : Int) ∈ l→s < N→b.getD s false = true ∨ (s : Int) ∈ st
 next : ∀ s t : Nat,b.getD s false = true→(t : Int) ∈ rows.getD s []→t < N→b.getD t false = true ∨ (t : Int) ∈ st
theorem Mid.start (N rows l) : Mid N rows l (List.replicate N false) l := by
 have h0 : ∀ s,(List.replicate N false).getD s false = false:=fun s=>by simp only[List.getD,List.getElem?_replicate];split <;> rfl
 exact ⟨by simp,fun s h=>(by rw[h0] at h;cases h),fun s h hs=>.base s h hs,fun s h _=>.inr h,fun s t h=>(by rw[h0] at h;cases h)⟩
theorem Mid.done {N rows l b} (h : Mid N rows l b []) : b = C5 N rows l := by
 refine ab0 h.len fun s=>⟨h.sound s,fun hr=>?_⟩
 induction hr with
 | base s hm hs =>
  rcases h.base s hm hs with h | h
  ·exact h
  ·cases h
 | step s t hr hm ht ih =>
  rcases h.next s t ih hm ht with h | h
  ·exact h
  ·cases h
theorem Mid.skip {N rows l b st} {x : Int} (h : Mid N rows l b (st++[x])) (hx : ∀ s : Nat,x = s→s < N→b.getD s false = true) : Mid N rows l b st := by
 refine ⟨h.len,h.sound,fun s hm hs=>h.wait s (by simp[hm]) hs,fun s hm hs=>?_,fun s t hb hm ht=>?_⟩
 ·rcases h.base s hm hs with h1 | h1
  ·exact .inl h1
  ·rcases List.mem_append.1 h1 with h1 | h1
   ·exact .inr h1
   ·exact .inl (hx s (List.mem_singleton.1 h1).symm hs)
 ·rcases h.next s t hb hm ht with h1 | h1
  ·exact .inl h1
  ·rcases List.mem_append.1 h1 with h1 | h1
   ·exact .inr h1
   ·exact .inl (hx t (List.mem_singleton.1 h1).symm ht)
theorem Mid.mark {N rows l b st} {s : Nat} (h : Mid N rows l b (st++[(s : Int)])) (hs : s < N) : Mid N rows l (b.set s true) (st++rows.getD s []) := by
 have hsl : s < b.length:=by rw[h.len];exact hs
 have hr : Rch N rows l s:=h.wait s (by simp) hs
 have hg : ∀ t,(b.set s true).getD t false = true ↔ t = s ∨ b.getD t false = true:=fun t=>by
  rw[D2 _ _ _ _ _ hsl]
  by_cases e : s = t
  ·simp[e]
  ·rw[if_neg e];simp[show ¬ t = s from fun hc=>e hc.symm]
 refine ⟨by simpa using h.len,fun t ht=>?_,fun t hm ht=>?_,fun t hm ht=>?_,fun t u hb hm hu=>?_⟩
 ·rcases (hg t).1 ht with rfl | ht
  ·exact hr
  ·exact h.sound t ht
 ·rcases List.mem_append.1 hm with hm | hm
  ·exact h.wait t (by simp[hm]) ht
  ·exact .step s t hr hm ht
 ·rw[hg]
  rcases h.base t hm ht with h1 | h1
  ·exact .inl (.inr h1)
  ·rcases List.mem_append.1 h1 with h1 | h1
   ·exact .inr (List.mem_append_left _ h1)
   ·exact .inl (.inl (by have:=List.mem_singleton.1 h1;omega))
 ·rw[hg]
  rcases (hg t).1 hb with rfl | hb
  ·exact .inr (List.mem_append_right _ hm)
  ·rcases h.next t u hb hm hu with h1 | h1
   ·exact .inl (.inr h1)
   ·rcases List.mem_append.1 h1 with h1 | h1
    ·exact .inr (List.mem_append_left _ h1)
    ·exact .inl (.inl (by have:=List.mem_singleton.1 h1;omega))
theorem aW3 {b : List Bool} {i : Nat} (h : i < b.length) : E0 (b.take (i+1)) = E0 (b.take i)++(if b.getD i false then [(i : Int)] else []) := by
 have e : ∀ n,n≤b.length→E0 (b.take n) = ((List.range n).map fun s=>if b.getD s false then [(s : Int)] else []).flatten:=fun n hn=>by
  unfold E0
  rw[List.length_take,Nat.min_eq_left hn]
  congr 1
  refine List.map_congr_left fun s hs=>?_
  have : s < n:=List.mem_range.1 hs
  have : (b.take n).getD s false = b.getD s false:=by simp[List.getD,List.getElem?_take,this]
  rw[this]
 rw[e _ (by omega),e _ (by omega),List.range_succ,List.map_append,List.flatten_append]
 congr 1
 rw[List.map_singleton]
 exact List.append_nil _
theorem bv2 {rows : List (List Int)} {N : Nat} (h : rows.length = N) : aR6 rows (List.replicate N false) = (rows.map List.length).sum := by
 subst h
 unfold aR6
 congr 1
 refine List.ext_getElem (by simp) fun s h1 h2=>?_
 have hs : s < rows.length:=by simpa using h2
 simp[List.getD,List.getElem?_replicate,hs]
theorem aq6 (b : List Bool) : (E0 b).length≤b.length := by
 unfold E0
 rw[List.length_flatten,List.map_map]
 have h:=bv1 (List.range b.length) (List.length ∘ fun s=>if b.getD s false then [(s : Int)] else []) (fun _=>1) (fun s _=>by
  show (if b.getD s false then [(s : Int)] else []).length≤1
  split
  ·exact Nat.le_refl 1
  ·exact Nat.zero_le 1)
 have h2 : ∀ n : Nat,((List.range n).map fun _=>1).sum = n:=fun n=>by
  induction n with
  | zero=>rfl
  | succ n ih=>rw[List.range_succ,List.map_append,List.sum_append,ih];rfl
 rw[h2] at h
 exact h
theorem cW1 (rows : List (List Int)) (s : Nat) : (rows.getD s []).length≤(rows.map List.length).sum := by
 induction rows generalizing s with
 | nil=>simp[List.getD]
 | cons r rows ih =>
  cases s with
  | zero=>simp[List.getD]
  | succ s=>have:=ih s;simp only[List.getD_cons_succ,List.map_cons,List.sum_cons];omega
theorem bv3 {rows : List (List Int)} {s : Nat} (h : s < rows.length) : N4 false 1 ((rows.map slI).drop s) = some (slI (rows.getD s [])) := by
 rw[au1 (by simpa using h)];simp[List.getD,h]
theorem cc9 (md X cr k) (N : Nat) (hN : N≤100000) (rows : List (List Int)) (hr : rows.length = N) (l : List Int) (hsz : l.length+(rows.map List.length).sum≤10000000) (hk : l.length+(rows.map List.length).sum+N < k) :
  WP (EX md X) cr k (fun _=>none) (Tryz.f81.body.getD .skip) (A2 [ad3 N rows,slI l]) (fun _=>none) 0 (fun u a o nx=>u = .ret∧A.view o p9 (a 4) = slI (E0 (C5 N rows l))):=by
 simp only[Tryz.f81,Option.getD_some]
 have hz : (cI (List.replicate l.length 0)).drop l.length = []:=by simp[cI]
 simp (disch:=omega) only[go_sem,A2,J5,ad2,hz]
 refine o9 (fun m a o nx=>∃ b full n g,Mid N rows l b (full.take n)∧n≤full.length∧m = n+aR6 rows b∧4≤nx∧m≤l.length+(rows.map List.length).sum∧a 2 = .ptr (0,2) (0,2) 0∧a 5 = .ref (1,13) (1,13) 0 N∧a 6 = .ref (2,16) g 0 n ∧
   o (0,2) = some (.row ⟨155,1,(0,2),false,true,[.int .i64 N,.sl N (rows.map slI)]⟩)∧o (1,13) = some (.row ⟨4,1,(1,13),false,true,cB b⟩)∧o (2,16) = some (.row ⟨3,1,g,false,true,cI full⟩)) (l.length+(rows.map List.length).sum) ?_ ?_ ?_
 ·omega
 ·refine ⟨List.replicate N false,l,l.length,(2,16),by rw[List.take_length];exact Mid.start N rows l,Nat.le_refl _,by rw[bv2 hr],by omega,Nat.le_refl _,?_⟩
  simp only[go_sem,A2]
 ·rintro m a o nx ⟨b,full,n,g,hM,hn,rfl,hnx,hm,h2,h5,h6,ho2,ho13,ho16⟩
  have hbl:=hM.len
  by_cases h0 : n = 0
  ·subst h0
   rw[List.take_zero] at hM
   have hdone:=hM.done
   simp (disch:=omega) only[go_sem,h2,h5,h6,ho2,ho13,ho16]
   refine o9 (fun m a o nx'=>∃ i g,i≤N∧m = N - i∧nx+2≤nx'∧a 8 = .ref (nx+1,61) g 0 (E0 (b.take i)).length∧a 62 = .ref (1,13) (1,13) 0 N∧a 63 = .int .i64 N∧a 64 = .int .i64 i ∧
    o (1,13) = some (.row ⟨4,1,(1,13),false,true,cB b⟩)∧o (nx+1,61) = some (.row ⟨3,1,g,false,true,cI (E0 (b.take i))⟩)) N ?_ ?_ ?_
   ·omega
   ·refine ⟨0,(nx+1,61),by omega,by omega,by omega,?_⟩
    have h0 : E0 (b.take 0) = []:=rfl
    simp only[go_sem,ho13,h0]
    exact ⟨rfl,rfl⟩
   ·rintro m a o nx' ⟨i,g,hi,rfl,hnx',h8,h62,h63,h64,ho13,ho61⟩
    by_cases hlt : i < N
    ·have hib : i < b.length:=by omega
     have hgb:=L3 (s:=1) hib
     have hsn:=aW3 hib
     have hle:=aq6 (b.take i)
     rw[List.length_take] at hle
     cases hbi : b.getD i false with
     | true =>
      rw[hbi] at hgb hsn
      rw[if_pos rfl] at hsn
      simp (disch:=omega) only[go_sem,h8,h62,h63,h64,ho13,ho61,hgb,IntWalk.i64_in]
      exact ⟨_,by omega,i+1,_,by omega,rfl,by omega,by rw[hsn,List.length_append];rfl,by simp,by rw[hsn,P5];rfl⟩
     | false =>
      rw[hbi] at hgb hsn
      rw[if_neg (by simp),List.append_nil] at hsn
      simp (disch:=omega) only[go_sem,h8,h62,h63,h64,ho13,ho61,hgb,IntWalk.i64_in]
      exact ⟨_,by omega,i+1,g,by omega,rfl,by omega,by rw[hsn],by simp,by rw[hsn]⟩
    ·have e : i = N:=by omega
     subst e
     rw[List.take_of_length_le (by omega)] at h8 ho61
     have hlb:=aq6 b
     rw[← hdone]
     by_cases hz : (E0 b).length = 0
     ·simp (disch:=omega) only[go_sem,h8,h62,h63,h64,ho13,ho61,hz]
      rw[List.length_eq_zero_iff.1 hz];rfl
     ·simp (disch:=omega) only[go_sem,h8,h62,h63,h64,ho13,ho61,hz]
  ·have hg:=P6 (s:=1) (show n - 1 < full.length by omega)
   have htk : full.take n = full.take (n - 1)++[full.getD (n - 1) 0]:=by
    have:=q8 (show n - 1 < full.length by omega) 0
    rwa [show n - 1+1 = n by omega] at this
   rw[htk] at hM
   generalize full.getD (n - 1) 0 = x at hg htk hM
   have htk1 : (full.take (n - 1)).length = n - 1:=by rw[List.length_take];omega
   by_cases hx0 : 0≤x
   ·obtain ⟨s,rfl⟩:=Int.eq_ofNat_of_zero_le hx0
    by_cases hs : s < N
    ·have hgb:=L3 (s:=1) (show s < b.length by omega)
     have hrow:=bv3 (rows:=rows) (show s < rows.length by omega)
     have hcs:=aB2 b s true (by omega)
     cases hbs : b.getD s false with
     | true =>
      rw[hbs] at hgb
      simp (disch:=omega) only[go_sem,h2,h5,h6,ho2,ho13,ho16,hg,hgb,IntWalk.i64_in]
      refine ⟨_,?_,b,full,n - 1,g,hM.skip (fun t ht _=>?_),by omega,rfl,by omega,rfl,rfl,rfl⟩
      ·omega
      ·have : s = t:=by omega
       rw[← this,hbs]
     | false =>
      rw[hbs] at hgb
      have htd:=cc8 (rows:=rows) (show s < b.length by omega) hbs
      have hrl : (rows.getD s []).length≤(rows.map List.length).sum:=cW1 rows s
      simp (disch:=omega) only[go_sem,h2,h5,h6,ho2,ho13,ho16,hg,hgb,hrow,hcs,be0,IntWalk.i64_in]
      refine ⟨_,?_,b.set s true,full.take (n - 1)++rows.getD s [],n - 1+(rows.getD s []).length,_,?_,?_,rfl,?_,rfl,rfl,by rw[P5]⟩
      ·omega
      ·rw[List.take_of_length_le (by rw[List.length_append];omega)]
       exact hM.mark hs
      ·rw[List.length_append];omega
      ·omega
    ·simp (disch:=omega) only[go_sem,h2,h5,h6,ho2,ho13,ho16,hg,IntWalk.i64_in]
     exact ⟨_,by omega,b,full,n - 1,g,hM.skip (fun t ht htN=>by omega),by omega,rfl,by omega,rfl,rfl,rfl⟩
   ·simp (disch:=omega) only[go_sem,h2,h5,h6,ho2,ho13,ho16,hg,IntWalk.i64_in]
    exact ⟨_,by omega,b,full,n - 1,g,hM.skip (fun t ht _=>by omega),by omega,rfl,by omega,rfl,rfl,rfl⟩
theorem cW2 (X) : d9 (EX md0 X) (fun _=>none) 2 Tryz.f81 = true := by kernel_rfl
theorem cd0 (N : Nat) (hN : N≤100000) (rows : List (List Int)) (hr : rows.length = N) (l : List Int) (hsz : l.length+(rows.map List.length).sum≤10000000) : Ok Tryz.prog 81 [ad3 N rows,slI l] (slI (E0 (C5 N rows l))) := by
 refine m7 (E:=EX md0 (fun _ _=>none)) (cr:=noR) (t6 _) (q7 _) mixed (k:=l.length+(rows.map List.length).sum+N+1) Tryz.func81 (cW2 _) rfl (U2 (cc9 _ _ _ _ N hN rows hr l hsz (by omega)) ?_)
 rintro u a o nx ⟨rfl,h⟩
 exact ⟨.inr rfl,h⟩
end Go.Proofs.YtpmjpogcaglphaaGreatDoor.A
namespace Go.Proofs.YtpmjpogcaglphaaGreatDoor.A
open Go
set_option maxRecDepth 20000
def R38 (args : List AV) (r : AV) : Prop := ∃ (N : Nat) (S F : Int) (ss : List (Int × Int × Int)) (fs : List (Int × Int)),N≤1000∧fs.length≤100000∧(∀ p ∈ fs,0≤p.1∧p.1 < (N : Int))∧args = [Z0 N S F ss fs]∧r = ad3 N (u5 N fs)
def R39 (args : List AV) (r : AV) : Prop := ∃ (N : Nat) (rows : List (List Int)) (l : List Int),N≤100000∧rows.length = N∧l.length+(rows.map List.length).sum≤10000000∧args = [ad3 N rows,slI l]∧r = slI (E0 (C5 N rows l))
theorem cW3 : N2 R38 := by
 rintro args r r' ⟨N,S,F,ss,fs,_,_,_,rfl,rfl⟩ ⟨N',S',F',ss',fs',_,_,_,h,rfl⟩
 simp only[Z0,List.cons.injEq,AV.agg.injEq,AV.int.injEq,AV.sl.injEq,true_and,and_true] at h
 obtain ⟨h1,_,_,_,_,h2⟩:=h
 have h1 : N = N':=by omega
 rw[h1,au2 h2]
theorem cW4 : N2 R39 := by
 rintro args r r' ⟨N,rows,l,_,_,_,rfl,rfl⟩ ⟨N',rows',l',_,_,_,h,rfl⟩
 simp only[ad3,List.cons.injEq,AV.agg.injEq,AV.int.injEq,AV.sl.injEq,true_and,and_true] at h
 obtain ⟨⟨h1,_,h2⟩,_,h3⟩:=h
 have h1 : N = N':=by omega
 rw[h1,ca3 h2,V7 h3]
theorem cW5 (args r) (h : R38 args r) : Ok Tryz.prog 80 args r := by
 obtain ⟨N,S,F,ss,fs,h1,h2,h3,rfl,rfl⟩:=h
 exact bu2 N S F h1 ss fs h2 h3
theorem cW6 (args r) (h : R39 args r) : Ok Tryz.prog 81 args r := by
 obtain ⟨N,rows,l,h1,h2,h3,rfl,rfl⟩:=h
 exact cd0 N h1 rows h2 l h3
theorem cd1 {N : Nat} {fs : List (Int × Int)} (h : ∀ p ∈ fs,0≤p.1∧p.1 < (N : Int)) : ((u5 N fs).map List.length).sum = fs.length := by
 have key : ∀ (l : List (Int × Int)) (rows : List (List Int)),rows.length = N→(∀ p ∈ l,0≤p.1∧p.1 < (N : Int))→((l.foldl P7 rows).map List.length).sum = (rows.map List.length).sum+l.length:=fun l=>by
  induction l with
  | nil=>intro rows _ _;simp
  | cons p l ih =>
   intro rows hl hp
   have hp0:=hp p (List.mem_cons_self ..)
   have hlt : p.1.toNat < rows.length:=by omega
   rw[List.foldl_cons,ih _ (by simpa [P7] using hl) (fun q hq=>hp q (List.mem_cons_of_mem _ hq))]
   have : ((P7 rows p).map List.length).sum = (rows.map List.length).sum+1:=by
    unfold P7
    have e : ∀ (rs : List (List Int)) (i : Nat) (x : List Int),i < rs.length→((rs.set i x).map List.length).sum+(rs.getD i []).length = (rs.map List.length).sum+x.length:=fun rs=>by
     induction rs with
     | nil=>intro i x h;simp at h
     | cons r rs ih =>
      intro i x h
      cases i with
      | zero=>simp[List.getD];omega
      | succ i =>
       have:=ih i x (by simpa using h)
       simp only[List.set_cons_succ,List.map_cons,List.sum_cons,List.getD_cons_succ]
       omega
    have:=e rows p.1.toNat (rows.getD p.1.toNat []++[p.2]) hlt
    rw[List.length_append,List.length_singleton] at this
    omega
   rw[this,List.length_cons];omega
 have:=key fs (List.replicate N []) (by simp) h
 simpa [u5] using this
noncomputable def X28 : FuncId→List AV→Option AV := t7 [(80,D9 R38),(81,D9 R39)]
theorem cW7 : s6 Tryz.prog X28 := l8 (l8 (t6 _) (n8 cW6)) (n8 cW5)
theorem cW8 {N : Nat} (S F : Int) (ss) {fs : List (Int × Int)} (hN : N≤1000) (hfs : fs.length≤100000) (hin : ∀ p ∈ fs,0≤p.1∧p.1 < (N : Int)) : X28 80 [Z0 N S F ss fs] = some (ad3 N (u5 N fs)) := by
 show D9 R38 _ = _
 exact o8 cW3 ⟨N,S,F,ss,fs,hN,hfs,hin,rfl,rfl⟩
theorem cW9 {N : Nat} {fs : List (Int × Int)} (hN : N≤1000) (hfs : fs.length≤100000) (hin : ∀ p ∈ fs,0≤p.1∧p.1 < (N : Int)) (l : List Int) (hl : l.length≤9000000) : X28 81 [ad3 N (u5 N fs),slI l] = some (slI (E0 (C5 N (u5 N fs) l))) := by
 show D9 R39 _ = _
 exact o8 cW4 ⟨N,u5 N fs,l,by omega,L5 _ _,by rw[cd1 hin];omega,rfl,rfl⟩
theorem cX0 (X) : d9 (EX md0 X) (fun _=>none) 2 Tryz.f54 = true := by kernel_rfl
theorem bf0 (N : Nat) (hN : N≤1000) (S F : Int) (ss) (fs : List (Int × Int)) (hfs : fs.length≤100000) (hin : ∀ p ∈ fs,0≤p.1∧p.1 < (N : Int)) (l : List Int) (hl : l.length≤9000000) : Ok Tryz.prog 54 [Z0 N S F ss fs,slI l] (slI (E0 (C5 N (u5 N fs) l))) := by
 refine m7 (E:=EX md0 X28) (cr:=noR) cW7 (q7 _) mixed (k:=0) Tryz.func54 (cX0 _) rfl ?_
 have h38:=cW8 S F ss hN hfs hin
 have h39:=cW9 hN hfs hin l hl
 simp only[Tryz.f54,Option.getD_some]
 simp (disch:=omega) only[go_sem,A2,h38,h39]
def I9 (set m : Int) : Bool := decide (dw0 .i64 (set.fdiv (2 ^ min m.toNat 64)) 1 = 1)
def leads (b : List Bool) (m : Int) (s : Int × Int × Int) : Bool := b.getD s.1.toNat false && (decide (0≤m) && decide (m < 5) && I9 s.2.2 m)
def L7 (ss : List (Int × Int × Int)) (b : List Bool) (m : Int) : List Int := (ss.filter (leads b m)).map (·.2.1)
noncomputable def aq7 (N : Nat) (rows : List (List Int)) (ss : List (Int × Int × Int)) (b : List Bool) (m : Int) : List Bool := C5 N rows (L7 ss b m)
noncomputable def bA9 (N : Nat) (S : Int) (ss : List (Int × Int × Int)) (fs : List (Int × Int)) (w : List Int) : List Bool := w.foldl (aq7 N (u5 N fs) ss) (C5 N (u5 N fs) [S])
noncomputable def cX1 (N : Nat) (S F : Int) (ss : List (Int × Int × Int)) (fs : List (Int × Int)) (w : List Int) : Bool := (bA9 N S ss fs w).getD F.toNat false
theorem bI8 (N S ss fs w m) : bA9 N S ss fs (w++[m]) = aq7 N (u5 N fs) ss (bA9 N S ss fs w) m := by simp[bA9]
theorem bf1 (ss s b m) : L7 (ss++[s]) b m = L7 ss b m++(if leads b m s then [s.2.1] else []) := by
 unfold L7
 rw[List.filter_append,List.map_append]
 congr 1
 cases h : leads b m s <;> simp[h]
theorem R7 {b : List Bool} {x : Int} : x ∈ E0 b ↔ ∃ s : Nat,x = s∧b.getD s false = true := by
 unfold E0
 rw[List.mem_flatten]
 constructor
 ·rintro ⟨l,hl,hx⟩
  obtain ⟨s,_,rfl⟩:=List.mem_map.1 hl
  cases hb : b.getD s false with
  | true=>rw[hb] at hx;exact ⟨s,by simpa using hx,hb⟩
  | false=>rw[hb] at hx;simp at hx
 ·rintro ⟨s,rfl,hb⟩
  have hs : s < b.length:=by
   by_cases h : s < b.length
   ·exact h
   ·rw[List.getD,List.getElem?_eq_none (by omega)] at hb;cases hb
  exact ⟨_,List.mem_map.2 ⟨s,List.mem_range.2 hs,rfl⟩,by rw[hb];simp⟩
def Z4 (N : Nat) (l : List Int) : List Bool := l.foldl (fun b s=>b.set s.toNat true) (List.replicate N false)
theorem bv4 (N l x) : Z4 N (l++[x]) = (Z4 N l).set x.toNat true := by simp[Z4]
theorem ae1 (N l) : (Z4 N l).length = N := by
 have : ∀ (l : List Int) (b : List Bool),(l.foldl (fun b s=>b.set s.toNat true) b).length = b.length:=fun l=>by
  induction l with
  | nil=>intro;rfl
  | cons x l ih=>intro b;rw[List.foldl_cons,ih,List.length_set]
 rw[Z4,this,List.length_replicate]
theorem aW4 (N : Nat) (l : List Int) (h : ∀ x ∈ l,0≤x∧x < (N : Int)) (s : Nat) : (Z4 N l).getD s false = true ↔ (s : Int) ∈ l := by
 have key : ∀ (l : List Int) (b : List Bool),b.length = N→(∀ x ∈ l,0≤x∧x < (N : Int))→((l.foldl (fun b s=>b.set s.toNat true) b).getD s false = true ↔ b.getD s false = true ∨ (s : Int) ∈ l):=fun l=>by
  induction l with
  | nil=>intro b _ _;simp
  | cons x l ih =>
   intro b hb hx
   have h0:=hx x (List.mem_cons_self ..)
   rw[List.foldl_cons,ih _ (by rw[List.length_set];exact hb) (fun y hy=>hx y (List.mem_cons_of_mem _ hy)),D2 _ _ _ _ _ (by omega),List.mem_cons]
   by_cases e : x.toNat = s
   ·have : (s : Int) = x:=by omega
    simp[e,this]
   ·have : ¬ (s : Int) = x:=by omega
    rw[if_neg e];simp[this]
 have h0 : (List.replicate N false).getD s false = false:=by simp only[List.getD,List.getElem?_replicate];split <;> rfl
 have:=key l (List.replicate N false) (by simp) h
 rw[h0] at this
 simpa [Z4] using this
theorem aj2 {b : List Bool} {x : Int} (h : x ∈ E0 b) : 0≤x∧x < b.length := by
 obtain ⟨s,rfl,hb⟩:=R7.1 h
 by_cases h : s < b.length
 ·omega
 ·rw[List.getD,List.getElem?_eq_none (by omega)] at hb;cases hb
theorem aK7 (b : List Bool) : Z4 b.length (E0 b) = b := by
 refine List.ext_getElem (ae1 _ _) fun s h1 h2=>?_
 have e1 : (Z4 b.length (E0 b)).getD s false = (Z4 b.length (E0 b))[s]:=by simp[List.getD,h1]
 have e2 : b.getD s false = b[s]:=by simp[List.getD,h2]
 rw[Bool.eq_iff_iff,← e1,← e2,aW4 _ _ (fun x hx=>aj2 hx),R7]
 constructor
 ·rintro ⟨t,ht,hb⟩
  have : s = t:=by omega
  rw[this];exact hb
 ·exact fun hb=>⟨s,rfl,hb⟩
structure Wf (N : Nat) (S F : Int) (ss : List (Int × Int × Int)) (fs : List (Int × Int)) : Prop where
 n : N≤1000
 s : 0≤S∧S < N
 f : 0≤F∧F < N
 ls : ss.length≤100000
 lf : fs.length≤100000
 steps : ∀ p ∈ ss,(0≤p.1∧p.1 < N)∧(0≤p.2.1∧p.2.1 < N)
 free : ∀ p ∈ fs,(0≤p.1∧p.1 < N)∧(0≤p.2∧p.2 < N)
theorem J6 {α : Type} {l : List α} {i : Nat} (h : i < l.length) (d : α) : l.getD i d ∈ l := by
 have : l.getD i d = l[i]:=by simp[List.getD,h]
 rw[this];exact List.getElem_mem h
end Go.Proofs.YtpmjpogcaglphaaGreatDoor.A
