/- Machines of one way out of machines of many: a number's digits, a set's name. -/
import Derived.Test.YtpmjpogcaglphaaGreatDoorMLMCompiles21
import Derived.Test.YtpmjpogcaglphaaGreatDoorMLMCompiles22
set_option linter.unusedVariables false
set_option linter.unusedSimpArgs false
set_option linter.unnecessarySimpa false
namespace Go.Proofs.YtpmjpogcaglphaaGreatDoor.A
open Go
set_option maxRecDepth 20000
theorem aP4 {n : Nat} (h : n < 10) : Lib.decDigits n = [UInt8.ofNat (48+n)] := by rw[Lib.decDigits,dif_pos h]
theorem bn5 {n : Nat} (h : ¬ n < 10) : Lib.decDigits n = Lib.decDigits (n / 10)++[UInt8.ofNat (48+n % 10)] := by rw[Lib.decDigits,dif_neg h]
theorem bO3 {n : Nat} (h : n < 1000) : Lib.decDigits n = aj3 n := by
 unfold aj3
 by_cases h1 : n < 10
 ·rw[if_pos h1,aP4 h1]
 ·rw[if_neg h1,bn5 h1]
  by_cases h2 : n < 100
  ·rw[if_pos h2,aP4 (by omega)]
   rfl
  ·rw[if_neg h2,bn5 (n:=n / 10) (by omega),aP4 (by omega),Nat.div_div_eq_div_mul]
   rfl
noncomputable def XIt : FuncId→List AV→Option AV := t7 [(91,D9 cg8)]
theorem da0 : s6 Tryz.prog XIt := l8 (t6 _) (n8 ch0)
theorem da1 {x : Int} (h : 0≤x∧x < 1000) : XIt 91 [.int .i64 x] = some (.str (aj3 x.toNat)) := by
 obtain ⟨n,rfl⟩:=Int.eq_ofNat_of_zero_le h.1
 have e : Lib.itoa (n : Int) = aj3 n:=by
  unfold Lib.itoa
  rw[if_neg (by omega),show ((n : Int)).toNat = n by omega]
  exact bO3 (by omega)
 rw[show ((n : Int)).toNat = n by omega,← e]
 exact o8 (R:=cg8) cg9 ⟨(n : Int),by omega,by omega,rfl,rfl⟩
theorem bn6 (n : Nat) : (aj3 n).length≤3 := by
 unfold aj3
 split
 ·simp
 ·split <;> simp
theorem ch1 (l : List Int) : (V2 l).length≤4 * l.length := by
 induction l with
 | nil=>simp[V2]
 | cons x l ih =>
  have h1:=bn6 x.toNat
  have : V2 (x :: l) = aj3 x.toNat++[32]++V2 l:=rfl
  rw[this]
  simp only[List.length_append,List.length_cons,List.length_nil]
  omega
theorem da2 (X) : d9 (EX md0 X) (fun _=>none) 1 Tryz.f79 = true := by kernel_rfl
theorem cB2 (l : List Int) (hl : l.length≤1000) (hin : ∀ x ∈ l,0≤x∧x < 1000) : Ok Tryz.prog 79 [slI l] (.str (V2 l)) := by
 refine m7 (E:=EX md0 XIt) (cr:=noR) da0 (q7 _) mixed (k:=l.length+1) Tryz.func79 (da2 _) rfl ?_
 simp only[Tryz.f79,Option.getD_some]
 simp (disch:=omega) only[go_sem]
 refine o9 (fun m a o nx=>∃ i,i≤l.length∧m = l.length - i∧a 3 = .str (V2 (l.take i))∧a 6 = slI l∧a 7 = .int .i64 l.length∧a 8 = .int .i64 i) l.length (by omega) ⟨0,by omega,by omega,by simp (disch:=omega) only[go_sem];rfl,by simp (disch:=omega) only[go_sem],by simp (disch:=omega) only[go_sem],by simp (disch:=omega) only[go_sem]⟩ ?_
 rintro m a o nx ⟨i,hi,rfl,h3,h6,h7,h8⟩
 by_cases hlt : i < l.length
 ·have hat:=P6 (s:=1) hlt
  have hmem:=hin _ (J6 hlt 0)
  have htk:=q8 hlt 0
  have hle:=ch1 (l.take i)
  rw[List.length_take] at hle
  generalize l.getD i 0 = x at hat hmem htk
  have hit:=da1 hmem
  have h3le:=bn6 x.toNat
  simp (disch:=omega) only[go_sem,h3,h6,h7,h8,hat,hit]
  exact ⟨_,by omega,i+1,by omega,rfl,by rw[htk,bv7,List.append_assoc],rfl⟩
 ·have e : i = l.length:=by omega
  subst e
  rw[List.take_length] at h3
  simp (disch:=omega) only[go_sem,h3,h6,h7,h8]
def RNm (args : List AV) (r : AV) : Prop := ∃ l : List Int,l.length≤1000∧(∀ x ∈ l,0≤x∧x < 1000)∧args = [slI l]∧r = .str (V2 l)
theorem da3 : N2 RNm := by
 rintro args r r' ⟨l,_,_,rfl,rfl⟩ ⟨l',_,_,h,rfl⟩
 simp only[List.cons.injEq,and_true] at h
 rw[ai8 h]
theorem da4 (args r) (h : RNm args r) : Ok Tryz.prog 79 args r := by
 obtain ⟨l,h1,h2,rfl,rfl⟩:=h
 exact cB2 l h1 h2
set_option maxRecDepth 20000
abbrev ch2 : AV := .ptr (1,20) (1,20) 0
structure SubRow (o : Ob) (nx : Nat) (N : Nat) (S F : Int) (ss : List St3) (fs : List (Int × Int)) (lr : List (List St3)) (L : List (List Bool)) (lcs : List AV) (vS : AV) (scs : List AV) : Prop where
 two : 2≤nx
 row : o (1,20) = some (.row ⟨115,1,(1,20),false,true,[.int .i64 N,.int .i64 S,.int .i64 F,.sl ss.length (cS ss),.sl fs.length (cP fs),.ref (1,17) (1,17) 0 N,.mp (1,18),vS]⟩)
 leads : o (1,17) = some (.row ⟨59,1,(1,17),false,true,lcs⟩)
 rows : NS 44 o nx lcs lr
 ll : lr.length = N
 known : o (1,18) = some (.map (aK8 L))
 hs : HS 23 1 45 o nx vS L.length scs
 ni : NI 34 o nx scs (L.map E0)
 ne : ∀ x ∈ scs,x ≠ .nil
def SubAt (o : Ob) (nx : Nat) (N : Nat) (S F : Int) (ss : List St3) (fs : List (Int × Int)) (lr : List (List St3)) (L : List (List Bool)) : Prop := ∃ lcs vS scs,SubRow o nx N S F ss fs lr L lcs vS scs
def da5 (nx : Nat) (o o' : Ob) : Prop := ∀ i k,i < nx→k ≠ 20→k ≠ 18→k ≠ 45→k ≠ 40→o' (i,k) = o (i,k)
def BKeep40 (nx : Nat) (o o' : Ob) : Prop := ∀ i k,i < nx→k ≠ 40→o' (i,k) = o (i,k)
theorem SubAt.keep {o nx N S F ss fs lr L} (h : SubAt o nx N S F ss fs lr L) {o' : Ob} {nx' : Nat} (hk : BKeep40 nx o o') (hn : nx≤nx') : SubAt o' nx' N S F ss fs lr L := by
 obtain ⟨lcs,vS,scs,h⟩:=h
 have h2:=h.two
 exact ⟨lcs,vS,scs,⟨by omega,by rw[hk _ _ (by omega) (by decide)];exact h.row,by rw[hk _ _ (by omega) (by decide)];exact h.leads,h.rows.keep (fun i hi=>hk i _ hi (by decide)) hn,h.ll,by rw[hk _ _ (by omega) (by decide)];exact h.known,h.hs.keep (fun i hi=>hk i _ hi (by decide)) hn,h.ni.keep (fun i hi=>hk i _ hi (by decide)) hn,h.ne⟩⟩
noncomputable def XNm : FuncId→List AV→Option AV := t7 [(79,D9 RNm)]
theorem da6 : s6 Tryz.prog XNm := l8 (t6 _) (n8 da4)
theorem da7 {l : List Int} (h1 : l.length≤1000) (h2 : ∀ x ∈ l,0≤x∧x < 1000) : XNm 79 [slI l] = some (.str (V2 l)) := o8 (R := RNm) da3 ⟨l,h1,h2,rfl,rfl⟩
theorem cB3 (X) : d9 (EX md0 X) (fun _=>none) 2 Tryz.f53 = true := by kernel_rfl
theorem da8 {cr : v8} {k : Nat} {o : Ob} {nx : Nat} {N : Nat} {S F : Int} {ss fs lr} {L : List (List Bool)} (hN : N≤1000) (h : SubAt o nx N S F ss fs lr L) (hL : ∀ b ∈ L,b.length = N) (hLn : L.length≤100000) {t : List Bool} (ht : t.length = N) :
  WP (EX md0 XNm) cr k (fun _=>none) (Tryz.f53.body.getD .skip) (A2 [ch2,slI (E0 t)]) o nx (fun u a o' nx'=>u = .ret∧a 4 = .int .i64 (L.idxOf t : Int)∧nx≤nx'∧SubAt o' nx' N S F ss fs lr (ao6 L t)∧da5 nx o o'):=by
 obtain ⟨lcs,vS,scs,h⟩:=h
 have h2:=h.two
 have hrow:=h.row
 have hkn:=h.known
 have hld:=h.leads
 have hidx:=aq6 t
 have hnm:=da7 (l:=E0 t) (by omega) (fun x hx=>by have:=aj2 hx;omega)
 have hf:=aj4 (by omega) ht (n:=0) hL
 rw[Nat.zero_add] at hf
 unfold nm at hf
 have hz : (cI (List.replicate (E0 t).length 0)).drop (E0 t).length = []:=by simp[cI]
 simp only[Tryz.f53,Option.getD_some]
 by_cases hm : t ∈ L
 ·rw[if_pos hm] at hf
  simp (disch:=omega) only[go_sem,hrow,hkn,hnm,hf]
  rw[bF5 L t hm]
  exact ⟨by omega,SubAt.keep ⟨lcs,vS,scs,h⟩ (fun _ _ _ _=>rfl) (by omega),fun _ _ _ _ _ _ _=>rfl⟩
 ·rw[if_neg hm] at hf
  have hput:=bv8 (by omega) ht hL hm
  unfold nm at hput
  have hup : ∀ (o : Ob) (nx : Nat),ca0 (1,18) (.str (V2 (E0 t))) (.int .i64 (L.length : Int)) o nx (aK8 L) = some ⟨upd o (1,18) (.map (aK8 (ao6 L t))),nx⟩:=fun o nx=>by rw[be4 hf,hput]
  have hml : (ao6 L t).length = L.length+1:=by rw[al8 L t hm];simp
  have hmi : (ao6 L t).map E0 = L.map E0++[E0 t]:=by rw[al8 L t hm];simp
  rw[List.idxOf_eq_length hm]
  rcases h.hs with ⟨rfl,e2,rfl⟩ | ⟨i1,g1,rfl,hi1,hrow1,hlen1⟩
  ·have e4 : (L.length : Int) = 0:=by omega
   rw[e4] at hup ⊢
   simp (disch:=omega) only[go_sem,hrow,hkn,hnm,hf,hup,hz,ad2]
   refine ⟨by first | (congr 1;done) | (congr 1;omega),by omega,⟨lcs,_,[]++[.ref (nx+1+1+1+1+1,34) (nx+1+1+1+1+1,34) 0 (E0 t).length],⟨by omega,d8 _ _ _,by simp (disch:=omega) only[go_sem,hld],h.rows.keep (fun i hi=>by simp (disch:=omega) only[go_sem]) (by omega),h.ll,by simp (disch:=omega) only[go_sem],?_,?_,?_⟩⟩,?_⟩
   ·rw[hml]
    exact .inr ⟨nx+1+1+1+1+1+1+1,(nx+1+1+1+1+1+1+1,45),by rw[e2],by omega,by simp (disch:=omega) only[go_sem],by simp[e2]⟩
   ·rw[hmi]
    exact NI.snoc h.ni rfl (by omega) (by omega) (by omega) (fun i hi=>by simp (disch:=omega) only[go_sem]) (by simp (disch:=omega) only[go_sem])
   ·intro x hx
    rcases List.mem_append.1 hx with hx | hx
    ·exact h.ne x hx
    ·rw[List.mem_singleton.1 hx]
     exact fun hc=>by cases hc
   ·intro i k hi a1 a2 a3 a4
    have e1 : ¬ i = nx+1+1+1+1+1:=by omega
    have e2 : ¬ i = nx+1+1+1+1+1+1+1:=by omega
    simp[b9,a1,a2,a3,a4,e1,e2]
  ·simp (disch:=omega) only[go_sem,hrow,hkn,hnm,hf,hup,hz,hrow1,ad2]
   have htk : scs.take L.length = scs:=j7 (by omega)
   refine ⟨by first | (congr 1;done) | (congr 1;omega),by omega,⟨lcs,_,scs++[.ref (nx+1+1+1+1+1,34) (nx+1+1+1+1+1,34) 0 (E0 t).length],⟨by omega,d8 _ _ _,by simp (disch:=omega) only[go_sem,hld],h.rows.keep (fun i hi=>by simp (disch:=omega) only[go_sem]) (by omega),h.ll,by simp (disch:=omega) only[go_sem],?_,?_,?_⟩⟩,?_⟩
   ·rw[hml]
    exact .inr ⟨i1,(nx+1+1+1+1+1+1+1,45),rfl,by omega,by simp (disch:=omega) only[go_sem];rw[htk],by simp[hlen1]⟩
   ·rw[hmi]
    exact NI.snoc h.ni rfl (by omega) (by omega) (by omega) (fun i hi=>by simp (disch:=omega) only[go_sem]) (by simp (disch:=omega) only[go_sem])
   ·intro x hx
    rcases List.mem_append.1 hx with hx | hx
    ·exact h.ne x hx
    ·rw[List.mem_singleton.1 hx]
     exact fun hc=>by cases hc
   ·intro i k hi a1 a2 a3 a4
    have e1 : ¬ i = nx+1+1+1+1+1:=by omega
    have e2 : ¬ i = nx+1+1+1+1+1+1+1:=by omega
    simp[b9,a1,a2,a3,a4,e1,e2]
set_option maxRecDepth 20000
theorem BKeep40.refl (n o) : BKeep40 n o o := fun _ _ _ _=>rfl
theorem BKeep40.upd {n : Nat} {o0 o : Ob} {j d : Nat} {x : AObj} (h : BKeep40 n o0 o) (hj : n≤j ∨ d = 40) : BKeep40 n o0 (A.upd o (j,d) x) := fun i k hi hk=>by
 have e : ¬ (i,k) = (j,d):=fun hc=>by
  injection hc with h1 h2
  omega
 rw[A.upd,if_neg e]
 exact h i k hi hk
theorem BKeep40.seal {n : Nat} {o0 o : Ob} {ts : List Tag} (h : BKeep40 n o0 o) (ht : ∀ t ∈ ts,t.2 = 40) : BKeep40 n o0 (I7 ts o) := fun i k hi hk=>by
 rw[N9 (fun hm=>hk (ht _ hm))]
 exact h i k hi hk
def cO5 (args : List AV) (r : AV) : Prop := ∃ (N : Nat) (S F : Int) (ss : List (Int × Int × Int)) (fs : List (Int × Int)) (l : List Int),Wf N S F ss fs∧l.length≤9000000∧args = [Z0 N S F ss fs,slI l]∧r = slI (E0 (C5 N (u5 N fs) l))
theorem bO4 : N2 cO5 := by
 rintro args r r' ⟨N,S,F,ss,fs,w,_,_,rfl,rfl⟩ ⟨N',S',F',ss',fs',w',_,_,h,rfl⟩
 simp only[List.cons.injEq,and_true] at h
 obtain ⟨h1,h2,h3,h4,h5⟩:=aw5 h.1
 have h1 : N = N':=by omega
 rw[h1,h5,ai8 h.2]
theorem bO5 (args r) (h : cO5 args r) : Ok Tryz.prog 54 args r := by obtain ⟨N,S,F,ss,fs,w,h1,h2,rfl,rfl⟩ := h;exact bf0 N h1.n S F ss fs h1.lf (fun p hp=>(h1.free p hp).1) w h2
noncomputable def cB4 : FuncId→List AV→Option AV := t7 [(54,D9 cO5)]
theorem cB5 : s6 Tryz.prog cB4 := l8 (t6 _) (n8 bO5)
theorem cB6 {N : Nat} {S F : Int} {ss fs} (hw : Wf N S F ss fs) (l : List Int) (h : l.length≤9000000) : cB4 54 [Z0 N S F ss fs,slI l] = some (slI (E0 (C5 N (u5 N fs) l))) := o8 (R := cO5) bO4 ⟨_,_,_,_,_,_,hw,h,rfl,rfl⟩
theorem da9 (X) : d9 (EX md0 X) (fun _=>none) 3 Tryz.f55 = true := by kernel_rfl
theorem dD1 {cr : v8} {k : Nat} {o0 : Ob} {nx0 : Nat} {N : Nat} {S F : Int} {ss fs} {L : List (List Bool)} (hN : N≤1000) (hw : Wf N S F ss fs) (hss : ss.length≤1000) (h : SubAt o0 nx0 N S F ss fs (A1 N ss) L) {b : List Bool} (hb : b.length = N) {q : Nat} {g : Tag} (hq : q < nx0) (hrow : o0 (q,34) = some (.row ⟨3,1,g,false,true,cI (E0 b)⟩)) {m : Int} (hm : 0≤m∧m < 5) (hk : 1000 < k) :
  WP (EX md0 cB4) cr k (fun _=>none) (Tryz.f55.body.getD .skip) (A2 [ch2,.ref (q,34) g 0 (E0 b).length,.int .i64 m]) o0 nx0 (fun u a o' nx'=>u = .ret∧a 6 = slI (E0 (aq7 N (u5 N fs) ss b m))∧nx0≤nx'∧BKeep40 nx0 o0 o'):=by
 obtain ⟨lcs,vS,scs,h⟩:=h
 have h2:=h.two
 have hcl : lcs.length = N:=by rw[h.rows.1,h.ll]
 have hidx:=aq6 b
 have hbyle : ∀ l : List Int,(byL (A1 N ss) m l).length≤l.length * 1000:=fun l=>cZ7 (fun j=>by have:=ar5 N ss j;omega) m l
 simp only[Tryz.f55,Option.getD_some]
 simp (disch:=omega) only[go_sem]
 refine o9 (fun mm a o nx=>∃ i v,i≤(E0 b).length∧mm = (E0 b).length - i∧nx0≤nx∧HS 3 1 40 o nx v (byL (A1 N ss) m ((E0 b).take i)).length (cI (byL (A1 N ss) m ((E0 b).take i)))∧BKeep40 nx0 o0 o∧a 0 = ch2∧a 2 = .int .i64 m∧a 7 = v∧a 12 = .ref (q,34) g 0 (E0 b).length∧a 13 = .int .i64 (E0 b).length∧a 14 = .int .i64 i) (E0 b).length (by omega)
  ⟨0,.nil,by omega,by omega,by omega,by rw[List.take_zero];exact HS.nil,BKeep40.refl _ _,by simp (disch:=omega) only[go_sem],by simp (disch:=omega) only[go_sem],by simp (disch:=omega) only[go_sem],by simp (disch:=omega) only[go_sem],by simp (disch:=omega) only[go_sem],by simp (disch:=omega) only[go_sem]⟩ ?_
 rintro mm a o nx ⟨i,v,hi,rfl,hnx,hHS,hkp,h0,hm2,h7,h12,h13,h14⟩
 have ho34 : o (q,34) = _:=(hkp q 34 hq (by decide)).trans hrow
 have ho20 : o (1,20) = _:=(hkp 1 20 (by omega) (by decide)).trans h.row
 have ho17 : o (1,17) = _:=(hkp 1 17 (by omega) (by decide)).trans h.leads
 by_cases hlt : i < (E0 b).length
 ·have hat:=P6 (s:=1) hlt
  have hmem:=J6 hlt 0
  have htk:=q8 hlt 0
  have hle:=hbyle ((E0 b).take i)
  rw[List.length_take] at hle
  generalize (E0 b).getD i 0 = x at hat hmem htk
  have hx:=aj2 hmem
  obtain ⟨s,rfl⟩:=Int.eq_ofNat_of_zero_le hx.1
  have hsN : s < lcs.length:=by omega
  have hget:=au1 (s:=1) hsN
  have hH:=(h.rows.2.1 s (by rw[h.ll];omega)).keep (o':=o) (nx':=nx) (fun i hi=>hkp i 44 hi (by decide)) hnx
  have hrl:=ar5 N ss s
  have hsn : byL (A1 N ss) m ((E0 b).take (i+1)) = byL (A1 N ss) m ((E0 b).take i)++av5 m ((A1 N ss).getD s []):=by
   rw[htk,cg7,show ((s : Int)).toNat = s by omega]
  generalize hlr : (A1 N ss).getD s [] = row at hH hrl hsn
  generalize hvv : lcs.getD s .nil = w at hH hget
  have hwl : ∀ o : Ob,R9 Tryz.prog o 59 w = some (.int .i64 (row.length : Int)):=by
   intro o
   rcases hH with ⟨rfl,e,_⟩ | ⟨i1,g1,rfl,_,_,_⟩
   ·rw[e];simp (disch:=omega) only[go_sem]
   ·simp (disch:=omega) only[go_sem]
  have hrow1 : 0 < row.length→∃ i1 g1,w = .ref (i1,44) g1 0 row.length∧i1 < nx∧o (i1,44) = some (.row ⟨117,3,g1,false,true,cS row⟩):=by
   intro h
   rcases hH with ⟨_,e,_⟩ | ⟨i1,g1,e,hi1,e2,_⟩
   ·omega
   ·exact ⟨i1,g1,e,hi1,e2⟩
  clear hH hvv hlr htk hmem
  generalize hprev : byL (A1 N ss) m ((E0 b).take i) = prev at hHS hsn hle
  simp (disch:=omega) only[go_sem,h0,hm2,h7,h12,h13,h14,ho34,ho20,ho17,hat,hget,hwl]
  refine o9 (fun mm a o' nx'=>∃ j v,j≤row.length∧mm = row.length - j∧nx≤nx'∧HS 3 1 40 o' nx' v (prev++av5 m (row.take j)).length (cI (prev++av5 m (row.take j)))∧BKeep40 nx o o'∧a 0 = ch2∧a 2 = .int .i64 m∧a 7 = v∧a 12 = .ref (q,34) g 0 (E0 b).length∧a 13 = .int .i64 (E0 b).length∧a 14 = .int .i64 i∧a 24 = w∧a 25 = .int .i64 row.length∧a 26 = .int .i64 j) row.length (by omega)
   ⟨0,v,by omega,by omega,by omega,by rw[List.take_zero];simpa [av5] using hHS.keep (fun _ _=>rfl) (by omega),BKeep40.refl _ _,by simp (disch:=omega) only[go_sem,h0],by simp (disch:=omega) only[go_sem,hm2],by simp (disch:=omega) only[go_sem,h7],by simp (disch:=omega) only[go_sem,h12],by simp (disch:=omega) only[go_sem,h13],by simp (disch:=omega) only[go_sem,h14],by simp (disch:=omega) only[go_sem],by simp (disch:=omega) only[go_sem],by simp (disch:=omega) only[go_sem]⟩ ?_
  clear hHS h0 hm2 h7 h12 h13 h14 ho34 ho20 ho17
  rintro mm a o' nx' ⟨j,v,hj,rfl,hnx',hHS,hkp',h0,hm2,h7,h12,h13,h14,h24,h25,h26⟩
  have hok:=hHS.ok
  by_cases hjl : j < row.length
  ·obtain ⟨i1,g1,rfl,hi1,hr1⟩:=hrow1 (by omega)
   have ho44 : o' (i1,44) = _:=(hkp' i1 44 hi1 (by decide)).trans hr1
   have hat3:=cx1 hjl
   have htk3:=q8 hjl (0,0,0)
   have hle3:=bO1 m (row.take j)
   rw[List.length_take] at hle3
   generalize row.getD j (0,0,0) = p at hat3 htk3
   obtain ⟨f,t,set⟩:=p
   simp only at hat3
   have hsn3 : av5 m (row.take (j+1)) = av5 m (row.take j)++(if I9 set m then [t] else []):=by rw[htk3,bO0]
   by_cases hmd : dw0 .i64 (set.fdiv (2 ^ min m.toNat 64)) 1 = 1
   ·have hmd' : I9 set m = true:=decide_eq_true hmd
    rw[hmd',if_pos rfl] at hsn3
    rcases hHS with ⟨rfl,e2,e3⟩ | ⟨i2,g2,rfl,hi2,hrow2,hlen2⟩
    ·have ep : prev++av5 m (row.take j) = []:=List.length_eq_zero_iff.1 e2
     have elen : prev.length+(av5 m (row.take (j+1))).length = 1:=by rw[hsn3,List.length_append,← Nat.add_assoc,← List.length_append,ep];rfl
     have ecs : cI (prev++av5 m (row.take (j+1))) = [.int .i64 t]:=by rw[hsn3,← List.append_assoc,ep];rfl
     simp (disch:=omega) only[go_sem,h0,hm2,h7,h12,h13,h14,h24,h25,h26,ho44,hat3,hmd]
     refine ⟨_,?_,j+1,_,by omega,rfl,by omega,?_,?_,rfl,rfl⟩
     ·omega
     ·rw[elen,ecs]
      exact .inr ⟨nx'+1+1+1,_,rfl,by omega,d8 _ _ _,rfl⟩
     ·exact (((hkp'.upd (.inl (by omega))).upd (.inl (by omega))).upd (.inl (by omega))).upd (.inr rfl)
    ·have elen : prev.length+(av5 m (row.take (j+1))).length = prev.length+(av5 m (row.take j)).length+1:=by rw[hsn3,List.length_append];rfl
     have ecs : cI (prev++av5 m (row.take (j+1))) = cI (prev++av5 m (row.take j))++[.int .i64 t]:=by rw[hsn3,← List.append_assoc,P5];rfl
     have etk : (cI (prev++av5 m (row.take j))).take (prev.length+(av5 m (row.take j)).length) = cI (prev++av5 m (row.take j)):=j7 (by rw[l9,List.length_append])
     simp (disch:=omega) only[go_sem,h0,hm2,h7,h12,h13,h14,h24,h25,h26,ho44,hat3,hmd,hrow2]
     refine ⟨_,?_,j+1,_,by omega,rfl,by omega,?_,?_,rfl,rfl⟩
     ·omega
     ·rw[elen,ecs]
      exact .inr ⟨i2,_,rfl,by omega,by rw[d8,etk],by simp only[List.length_append,l9,List.length_cons,List.length_nil];omega⟩
     ·exact (((hkp'.upd (.inl (by omega))).upd (.inl (by omega))).upd (.inl (by omega))).upd (.inr rfl)
   ·have hmd' : I9 set m = false:=decide_eq_false hmd
    rw[hmd'] at hsn3
    simp only[Bool.false_eq_true,if_false,List.append_nil] at hsn3
    simp (disch:=omega) only[go_sem,h0,hm2,h7,h12,h13,h14,h24,h25,h26,ho44,hat3,hmd]
    refine ⟨_,?_,j+1,_,by omega,rfl,by omega,?_,?_,rfl,rfl⟩
    ·omega
    ·rw[hsn3]
     rw[List.length_append] at hHS
     exact hHS.keep (fun _ _=>by simp[b9]) (by omega)
    ·exact (hkp'.upd (.inl (by omega))).upd (.inl (by omega))
  ·have hje : j = row.length:=by omega
   subst hje
   rw[List.take_length,← hsn] at hHS
   simp (disch:=omega) only[go_sem,h0,hm2,h7,h12,h13,h14,h24,h25,h26]
   exact ⟨_,by omega,i+1,v,by omega,rfl,by omega,hHS.keep (fun _ _=>rfl) (by omega),fun i k hi hk=>(hkp' i k (by omega) hk).trans (hkp i k hi hk),rfl,rfl⟩
 ·have hie : i = (E0 b).length:=by omega
  subst hie
  rw[List.take_length] at hHS
  have hclo:=cB6 hw (byL (A1 N ss) m (E0 b)) (by have:=hbyle (E0 b);omega)
  rw[bO2 (fun p hp=>(hw.steps p hp).1) hb hm] at hclo
  have hv : view o 1012 v = slI (byL (A1 N ss) m (E0 b)):=by rw[hHS.view 1011,X5]
  have htg:=hHS.tags 1011 (be3 _ _ _)
  simp (disch:=omega) only[go_sem,h0,hm2,h7,h12,h13,h14,ho20,hclo,hv]
  exact ⟨by omega,hkp.seal htg⟩
set_option maxRecDepth 20000
def dq6 (args : List AV) (r : AV) : Prop := ∃ (N S F : Int) (rest : List AV) (l : List Int),l.length≤100000∧args = [.fptr (.int .i64 N :: .int .i64 S :: .int .i64 F :: rest),slI l]∧r = .bool (decide (F ∈ l))
theorem cB7 : N2 dq6 := by
 rintro args r r' ⟨N,S,F,rest,l,_,rfl,rfl⟩ ⟨N',S',F',rest',l',_,h,rfl⟩
 simp only[List.cons.injEq,AV.fptr.injEq,AV.int.injEq,true_and,and_true] at h
 obtain ⟨⟨_,_,h1,_⟩,h2⟩:=h
 rw[h1,ai8 h2]
theorem cB8 (X) : d9 (EX md0 X) (fun _=>none) 2 Tryz.f56 = true := by kernel_rfl
theorem db0 (N S F : Int) (rest : List AV) (l : List Int) (hl : l.length≤100000) : Ok Tryz.prog 56 [.fptr (.int .i64 N :: .int .i64 S :: .int .i64 F :: rest),slI l] (.bool (decide (F ∈ l))) := by
 refine m7 (E:=EX md0 (fun _ _=>none)) (cr:=noR) (t6 _) (q7 _) mixed (k:=l.length+1) Tryz.func56 (cB8 _) rfl ?_
 simp only[Tryz.f56,Option.getD_some]
 simp (disch:=omega) only[go_sem]
 refine o9 (fun m a o nx=>∃ i,i≤l.length∧m = l.length - i∧(∀ x ∈ l.take i,x ≠ F)∧a 0 = .fptr (.int .i64 N :: .int .i64 S :: .int .i64 F :: rest)∧a 7 = slI l∧a 8 = .int .i64 l.length∧a 9 = .int .i64 i) l.length (by omega) ⟨0,by omega,by omega,fun x hx=>absurd hx (by simp),by simp (disch:=omega) only[go_sem],by simp (disch:=omega) only[go_sem],by simp (disch:=omega) only[go_sem],by simp (disch:=omega) only[go_sem]⟩ ?_
 rintro m a o nx ⟨i,hi,rfl,hall,h0,h7,h8,h9⟩
 by_cases hlt : i < l.length
 ·have hat:=P6 (s:=1) hlt
  have hmem:=J6 hlt 0
  have htk:=q8 hlt 0
  generalize l.getD i 0 = x at hat hmem htk
  by_cases hx : x = F
  ·rw[decide_eq_true (hx ▸ hmem : F ∈ l)]
   simp (disch:=omega) only[go_sem,h0,h7,h8,h9,hat,hx]
  ·simp (disch:=omega) only[go_sem,h0,h7,h8,h9,hat,hx]
   refine ⟨_,by omega,i+1,by omega,rfl,fun y hy=>?_,rfl⟩
   rw[htk] at hy
   rcases List.mem_append.1 hy with hy | hy
   ·exact hall y hy
   ·rw[List.mem_singleton.1 hy];exact hx
 ·have hie : i = l.length:=by omega
  subst hie
  rw[List.take_length] at hall
  rw[decide_eq_false (fun h=>hall F h rfl)]
  simp (disch:=omega) only[go_sem,h0,h7,h8,h9]
theorem cB9 (args r) (h : dq6 args r) : Ok Tryz.prog 56 args r := by
 obtain ⟨N,S,F,rest,l,h1,rfl,rfl⟩:=h
 exact db0 N S F rest l h1
theorem aY1 {E : Env} {cr : v8} {k : Nat} {nz : Nat→Option (List (Nat × Nat))} {fn : Func} {c : Code} {args : List AV} {o : Ob} {nx : Nat} {K : AV × AH→Prop} (hb : fn.body = some c)
  (h : WP E cr k nz c (A2 args) o nx (fun u a o' nx'=>(u = .normal ∨ u = .ret)∧wO (s7 E.P a ⟨o',nx'⟩ fn.results.toList) (fun vs=>K (ac3 vs,⟨o',nx'⟩)))) : wO (Option.map (fun p=>t8 false p.1 p.2) (av2 E cr k nz fn args ⟨o,nx⟩)) K:=by
 obtain ⟨v,H',h1,h2⟩:=U4 (Post:=fun v o' nx'=>K (v,⟨o',nx'⟩)) hb h
 rw[h1]
 exact h2
noncomputable def bx8 : v8 := p8 [(53,fun args H=>if args.length = 2 then av2 (EX md0 XNm) noR 0 (fun _=>none) Tryz.f53 args H else none),(55,fun args H=>if args.length = 3 then av2 (EX md0 cB4) noR 1001 (fun _=>none) Tryz.f55 args H else none)]
theorem ch3 : x8 Tryz.prog bx8∧Up bx8 := by
 refine m9 (m9 (C1 _) fun args H v H' h=>?_) fun args H v H' h=>?_
 ·split at h
  ·rename_i hn
   exact L0 (E:=EX md0 cB4) cB5 (q7 Tryz.prog).1 (q7 Tryz.prog).2 mixed Tryz.func55 (by rw[hn];exact da9 cB4) h
  ·cases h
 ·split at h
  ·rename_i hn
   exact L0 (E:=EX md0 XNm) da6 (q7 Tryz.prog).1 (q7 Tryz.prog).2 mixed Tryz.func53 (by rw[hn];exact cB3 XNm) h
  ·cases h
theorem bn7 {o : Ob} {nx : Nat} {N : Nat} {S F : Int} {ss fs lr} {L : List (List Bool)} {K : AV × AH→Prop} (hN : N≤1000) (h : SubAt o nx N S F ss fs lr L) (hL : ∀ b ∈ L,b.length = N) (hLn : L.length≤100000) {t : List Bool} (ht : t.length = N)
  (hK : ∀ o' nx',nx≤nx'→SubAt o' nx' N S F ss fs lr (ao6 L t)→da5 nx o o'→K (.int .i64 (L.idxOf t : Int),⟨o',nx'⟩)) : wO (Option.map (fun p=>t8 false p.1 p.2) (bx8 53 [ch2,slI (E0 t)] ⟨o,nx⟩)) K:=by
 refine aY1 (E:=EX md0 XNm) (fn:=Tryz.f53) rfl (U2 (da8 hN h hL hLn ht) ?_)
 rintro u a o' nx' ⟨rfl,h4,h1,h2,h3⟩
 refine ⟨.inr rfl,?_⟩
 simp only[Tryz.f53]
 simp (disch:=omega) only[go_sem,h4]
 exact hK o' nx' h1 h2 h3
theorem cC0 {o : Ob} {nx : Nat} {N : Nat} {S F : Int} {ss fs} {L : List (List Bool)} {K : AV × AH→Prop} (hN : N≤1000) (hw : Wf N S F ss fs) (hss : ss.length≤1000) (h : SubAt o nx N S F ss fs (A1 N ss) L) {b : List Bool} (hb : b.length = N) {q : Nat} {g : Tag} (hq : q < nx) (hrow : o (q,34) = some (.row ⟨3,1,g,false,true,cI (E0 b)⟩)) {m : Int} (hm : 0≤m∧m < 5)
  (hK : ∀ o' nx',nx≤nx'→BKeep40 nx o o'→K (slI (E0 (aq7 N (u5 N fs) ss b m)),⟨o',nx'⟩)) : wO (Option.map (fun p=>t8 false p.1 p.2) (bx8 55 [ch2,.ref (q,34) g 0 (E0 b).length,.int .i64 m] ⟨o,nx⟩)) K:=by
 refine aY1 (E:=EX md0 cB4) (fn:=Tryz.f55) rfl (U2 (dD1 hN hw hss h hb hq hrow hm (by omega)) ?_)
 rintro u a o' nx' ⟨rfl,h6,h1,h2⟩
 refine ⟨.inr rfl,?_⟩
 simp only[Tryz.f55]
 simp (disch:=omega) only[go_sem,h6]
 exact hK o' nx' h1 h2
end Go.Proofs.YtpmjpogcaglphaaGreatDoor.A
