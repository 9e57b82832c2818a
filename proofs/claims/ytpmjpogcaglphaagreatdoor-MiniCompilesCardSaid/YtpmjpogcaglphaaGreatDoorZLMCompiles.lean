/- MiniCompiles answers true for whatever it is called with; the input reads as it did. -/
import Derived.Test.YtpmjpogcaglphaaGreatDoorMLMCompiles37
import Derived.Test.YtpmjpogcaglphaaGreatDoorMLMCompiles43
import Derived.Test.YtpmjpogcaglphaaGreatDoorMLMCompiles45
import Derived.Test.YtpmjpogcaglphaaGreatDoorMLMCompiles47
set_option linter.unusedVariables false
set_option linter.unusedSimpArgs false
set_option linter.unnecessarySimpa false
namespace Go.Proofs.YtpmjpogcaglphaaGreatDoor.A
open Go
set_option maxRecDepth 20000
theorem cI9 : ∀ q : Fin 31,1≤(bB0 (q.1+1)).length := by decide +kernel
theorem br3 : ∀ (n : Nd) (w : Int),A4 n = true→1≤(p6 w n).length
 | .mk k s lo hi l,w,hr=>by
  obtain ⟨hx,hc⟩:=A8 hr
  have hkid : ∀ x ∈ l,1≤(p6 w (.mk k s lo hi l)).length:=fun x hm=>by
   have : SizeOf.sizeOf x < SizeOf.sizeOf (Nd.mk k s lo hi l):=by
    have:=List.sizeOf_lt_of_mem hm
    simp only[Nd.mk.sizeOf_spec]
    omega
   exact Nat.le_trans (br3 x k (hx x hm)) (bp3 hr hm)
  rcases hc with ⟨rfl,rfl,rfl,rfl,h0,h1⟩ | ⟨hk,rfl,rfl,rfl,rfl⟩ | ⟨hk,rfl,rfl,rfl,y1,y2,r,rfl⟩ | ⟨hk,rfl,rfl,rfl,x,rfl⟩ | ⟨rfl,rfl,h0,h1,h2,x,rfl⟩
  ·rw[p6,if_pos rfl]
   have:=cI9 ⟨s.toNat - 1,by omega⟩
   rw[show s.toNat - 1+1 = s.toNat by omega] at this
   exact this
  ·rcases hk with rfl | rfl
   ·rw[p6,if_neg (by decide),if_pos rfl];simp
   ·rw[p6,if_neg (by decide),if_neg (by decide),if_pos rfl];simp
  ·exact hkid y1 (by simp)
  ·exact hkid x (by simp)
  ·exact hkid x (by simp)
termination_by n=>SizeOf.sizeOf n
decreasing_by
 exact this
def cY (bs : List UInt8) : List AV := bs.map fun b=>.int .u8 b.toNat
theorem di5 (bs) : (cY bs).length = bs.length := by simp[cY]
theorem di6 {l : List UInt8} {i s : Nat} (h : i < l.length) : N4 false s ((cY l).drop i) = some (.int .u8 (l.getD i 0).toNat) := by
 rw[S6 (by simpa [cY] using h)];simp[cY,List.getD,h]
theorem di7 (l : List UInt8) (i) (x : UInt8) (h : i < l.length) : w9 (cY l) i [.int .u8 x.toNat] = cY (l.set i x) := by
 rw[Y9 _ _ _ (by simpa [cY] using h)];simp[cY,List.map_set]
theorem bW2 (n : Int) : ∃ b : UInt8,IntKind.u8.wrap n = (b.toNat : Int) := by
 have e : IntKind.u8.wrap n = n % 256:=by simp[IntKind.wrap,IntKind.bits,IntKind.signed]
 refine ⟨UInt8.ofNat (n % 256).toNat,?_⟩
 rw[e,UInt8.toNat_ofNat']
 omega
theorem di8 (tg : Tag) (s : List UInt8) (o : Ob) (nx : Nat) : m5 Tryz.prog tg 9 31 (.str s) ⟨o,nx⟩ = some (.ref tg tg 0 s.length,⟨upd o tg (.row ⟨5,1,tg,false,false,cY s⟩),nx⟩) := by
 have e1 : Tryz.prog.underlying 9 = some .string:=by kernel_rfl
 have e2 : Tryz.prog.underlying 31 = some (.slice 5):=by kernel_rfl
 have e3 : Tryz.prog.underlying 5 = some (.int .u8):=by kernel_rfl
 unfold m5
 rw[e1,e2]
 simp only[e3]
 rfl
def cT (l : List (List UInt8)) : List AV := l.map AV.str
theorem di9 {l : List (List UInt8)} {i : Nat} (h : i < l.length) : N4 false 1 ((cT l).drop i) = some (.str (l.getD i [])) := by
 rw[S6 (by simpa [cT] using h)];simp[cT,List.getD,h]
theorem ed2 (s0 s1 s2 : List UInt8) (tg o nx) : s9 Tryz.prog tg 33 3 [(0,.str s0),(1,.str s1),(2,.str s2)] ⟨o,nx⟩ = some (.ref tg tg 0 3,⟨upd o tg (.row ⟨9,1,tg,false,true,cT [s0,s1,s2]⟩),nx⟩) := by
 rw[cU9]
 kernel_rfl
def RWb (args : List AV) (r : AV) : Prop := ∃ a n : Int,0 < n∧n≤100000000∧args = [.int .i64 a,.int .i64 n]∧r = .int .i64 (a % n)
theorem dj0 : N2 RWb := by
 rintro args r r' ⟨a,n,_,_,rfl,rfl⟩ ⟨a',n',_,_,h,rfl⟩
 simp only[List.cons.injEq,AV.int.injEq,true_and,and_true] at h
 rw[h.1,h.2]
theorem dj1 (X) : d9 (EX md0 X) (fun _=>none) 2 Tryz.f8 = true := by kernel_rfl
theorem bA7 (args r) (h : RWb args r) : Ok Tryz.prog 8 args r := by
 obtain ⟨a,n,h1,h2,rfl,rfl⟩:=h
 refine m7 (E:=EX md0 (fun _ _=>none)) (cr:=noR) (t6 _) (q7 _) mixed (k:=0) Tryz.func8 (dj1 _) rfl ?_
 rw[bF6 a n h1]
 obtain ⟨h3,h4⟩:=be5 a n h1
 simp only[Tryz.f8,Option.getD_some]
 by_cases hc : a.tmod n < 0
 ·rw[if_pos hc]
  simp (disch:=omega) only[go_sem,hc]
 ·rw[if_neg hc]
  simp (disch:=omega) only[go_sem,hc]
def co1 (args : List AV) (r : AV) : Prop := ∃ (n : Nd) (w : List Int),A4 n = true∧aq3 n = true∧w.length≤1000000∧args = [j5 n,slI w]∧r = .bool (af2 n w)
theorem co2 : N2 co1 := by
 rintro args r r' ⟨n,w,_,_,_,rfl,rfl⟩ ⟨n',w',_,_,_,h,rfl⟩
 simp only[List.cons.injEq,AV.agg.injEq,AV.sl.injEq,and_true] at h
 rw[K0 h.1,V7 h.2.2]
theorem co3 (args r) (h : co1 args r) : Ok Tryz.prog 14 args r := by obtain ⟨n,w,h1,h2,h3,rfl,rfl⟩ := h;exact cn8 n w h1 h2 h3
def ds4 (args : List AV) (r : AV) : Prop := ∃ (n : Nat) (N : List Int) (A : List Bool) (w : List Int),WfD n N A∧w.length≤1000000∧args = [S7 n N A,slI w]∧r = .bool (bl0 n N A w)
theorem cJ0 : N2 ds4 := by
 rintro args r r' ⟨n,N,A,w,_,_,rfl,rfl⟩ ⟨n',N',A',w',_,_,h,rfl⟩
 simp only[List.cons.injEq,and_true] at h
 obtain ⟨e1,e2,e3⟩:=W0 h.1
 have e4 : w = w':=V7 (by have:=h.2;simp only[AV.sl.injEq] at this;exact this.2)
 rw[e1,e2,e3,e4]
noncomputable def XMc : FuncId→List AV→Option AV := t7 [(4,D9 ds3),(5,D9 ds1),(6,D9 ds2),(7,D9 cl0),(8,D9 RWb),(9,D9 aZ0),(10,D9 aZ0),(11,D9 RSa),(12,D9 ca8),(13,D9 ds4),(14,D9 co1)]
theorem bW3 (ns : List Int) (most few : Int) : av6 (L6 ns most few) := by
 intro x hx
 obtain ⟨y,_,rfl⟩:=List.mem_map.1 hx
 have h1:=Int.emod_nonneg few (show (5 : Int) ≠ 0 by decide)
 have h2:=Int.emod_lt_of_pos few (show (0 : Int) < 5 by decide)
 have h3:=Int.emod_nonneg y (show (1+few % 5 : Int) ≠ 0 by omega)
 have h4:=Int.emod_lt_of_pos y (show (0 : Int) < 1+few % 5 by omega)
 exact ⟨h3,by omega⟩
theorem cJ1 {n N A} (h : WfD n N A) (w : List Int) : bl0 (W5 N A).length (an2 N A) (W5 N A) w = bl0 n N A w := (cD2 h (bP6 h) (cD0 h.okD) w).symm
theorem bW4 (s : List UInt8) : ∃ (N : List Int) (A : List Bool) (e : Int),an7 (V5 s) = .tup [S7 A.length N A,.int .i64 e]∧N.length = 5 * A.length∧A.length≤100000 := by
 rcases bh5 s (ax4 s) with ⟨e,he,hc⟩ | ⟨n,N,A,hw,hc⟩
 ·exact ⟨[],[],e,by rw[hc];rfl,rfl,by simp⟩
 ·have h:=bP6 hw
  exact ⟨an2 N A,W5 N A,0,by rw[hc];rfl,h.l,by have:=h.sz;omega⟩
set_option maxRecDepth 20000
theorem cJ2 (args r) (h : ds4 args r) : Ok Tryz.prog 13 args r := by obtain ⟨n,N,A,w,h1,h2,rfl,rfl⟩ := h;exact cb2 h1 w h2
theorem dj2 : s6 Tryz.prog XMc := l8 (l8 (l8 (l8 (l8 (l8 (l8 (l8 (l8 (l8 (l8 (t6 _) (n8 co3)) (n8 cJ2)) (n8 cb0)) (n8 cE8)) (n8 bU1)) (n8 cj5)) (n8 bA7)) (n8 bS2)) (n8 cI5)) (n8 cI3)) (n8 cI8)
def mdC (f : FuncId) : Mode := if f = 10 then .ext false else md0 f
theorem dF0 : mdC 10 = .ext false := rfl
theorem aH3 : mdC 4 = md0 4 := rfl
theorem ba9 : mdC 5 = md0 5 := rfl
theorem bb0 : mdC 6 = md0 6 := rfl
theorem aR1 : mdC 7 = md0 7 := rfl
theorem aF9 : mdC 8 = md0 8 := rfl
theorem av7 : mdC 9 = md0 9 := rfl
theorem aR2 : mdC 11 = md0 11 := rfl
theorem aR3 : mdC 12 = md0 12 := rfl
theorem bb1 : mdC 13 = md0 13 := rfl
theorem aH4 : mdC 14 = md0 14 := rfl
attribute [go_sem] dF0 aH3 ba9 bb0 aR1 aF9 av7 aR2 aR3 bb1 aH4
theorem dj3 (X) : d9 (EX mdC X) (fun _=>none) 4 Tryz.f3 = true := by kernel_rfl
attribute [-go_sem] cU9
theorem ed3 (X) {a : v6} {o : Ob} {nx : Nat} {Q : s8} {s t raw : List UInt8} {g : Tag} (h3 : a 3 = .str raw) (h14 : a 14 = .str s) (h15 : a 15 = .ref g g 0 s.length) (ht : t.length = s.length) (ho : o g = some (.row ⟨5,1,g,false,false,cY t⟩))
  (hQ : ∀ a',a' 4 = a 4→a' 5 = a 5→a' 13 = a 13→a' 14 = .str s→a' 16 = .ref (nx,56) (nx,56) 0 3→Q .normal a' (upd o (nx,56) (.row ⟨9,1,(nx,56),false,true,cT [s,t,raw]⟩)) (nx+1)) :
  WP (EX mdC X) noR 30 (fun _=>none) (u9 [1,1,1,1,1,1,1,0] (Tryz.f3.body.getD .skip)) a o nx Q:=by
 have hcv : ∀ (tg : Tag) (nx : Nat),m5 Tryz.prog tg 31 9 (.ref g g 0 s.length) ⟨o,nx⟩ = some (.str t,⟨o,nx⟩):=fun tg nx=>by
  rw[← ht]
  exact bp5 t ho rfl rfl
 simp only[Tryz.f3,Option.getD_some,u9]
 simp (disch:=omega) only[go_sem,h3,h14,h15,hcv,ed2]
 exact hQ _ rfl rfl rfl h14 rfl
theorem dj4 {l : List Rw} (hf : cq2 l = true) : XMc 7 [j5 (ao7 l)] = some (.str (p6 0 (ao7 l)))∧1≤(p6 0 (ao7 l)).length∧(p6 0 (ao7 l)).length≤9000000 ∧
  (∀ w : List Int,w.length≤1000000→XMc 14 [j5 (ao7 l),slI w] = some (.bool (af2 (ao7 l) w))) ∧
  ((∃ e,e ≠ 0∧V5 (p6 0 (ao7 l)) = (none,e)) ∨ ∃ n N A,WfD n N A∧n≤200∧V5 (p6 0 (ao7 l)) = (some (an2 N A,W5 N A),0)∧∀ w,av6 w→bl0 n N A w = af2 (ao7 l) w):=by
 obtain ⟨r1,r2,r3⟩:=bm2 hf
 obtain ⟨_,r4,_,r5,r6,_⟩:=cG7 hf
 exact ⟨o8 (R:=cl0) cl1 ⟨_,r1,r4,Nat.le_trans (r5 0) (by omega),rfl,rfl⟩,br3 _ 0 r1,r5 0,
  fun w hw=>o8 (R:=co1) co2 ⟨_,_,r1,r4,hw,rfl,rfl⟩,bW0 r1 r2 (by omega)⟩
theorem cJ3 (s : List UInt8) : ∃ (N : List Int) (A : List Bool) (e : Int),XMc 9 [.str s] = some (.tup [.agg [.sl A.length (cI N),.sl A.length (cB A)],.int .i64 e])∧XMc 10 [.str s] = some (.tup [.agg [.sl A.length (cI N),.sl A.length (cB A)],.int .i64 e])∧XMc 11 [.agg [.sl A.length (cI N),.sl A.length (cB A)],.agg [.sl A.length (cI N),.sl A.length (cB A)]] = some (.bool true) := by
 obtain ⟨N,A,e,h1,h2,h3⟩:=bW4 s
 have h1 : an7 (V5 s) = .tup [.agg [.sl A.length (cI N),.sl A.length (cB A)],.int .i64 e]:=h1
 refine ⟨N,A,e,?_,?_,?_⟩
 ·rw[← h1];exact o8 (R:=aZ0) aP6 ⟨_,ax4 s,rfl,rfl⟩
 ·rw[← h1];exact o8 (R:=aZ0) aP6 ⟨_,ax4 s,rfl,rfl⟩
 ·refine o8 (R:=RSa) dd8 ⟨_,_,_,_,_,_,h2,h2,h3,rfl,rfl,rfl,?_⟩
  rw[decide_eq_true ⟨rfl,rfl⟩]
theorem cJ4 {s : List UInt8} {mt : List Int→Bool} (hcs : (∃ e,e ≠ 0∧V5 s = (none,e)) ∨ ∃ n N A,WfD n N A∧n≤200∧V5 s = (some (an2 N A,W5 N A),0)∧∀ w,av6 w→bl0 n N A w = mt w) :
  ∃ (N : List Int) (A : List Bool) (e : Int),XMc 9 [.str s] = some (.tup [.agg [.sl A.length (cI N),.sl A.length (cB A)],.int .i64 e])∧(e = 0→∀ w,av6 w→w.length≤1000000→XMc 13 [.agg [.sl A.length (cI N),.sl A.length (cB A)],slI w] = some (.bool (mt w))):=by
 have hk : ∀ c,V5 s = c→XMc 9 [.str s] = some (an7 c):=fun c hc=>hc ▸ o8 (R:=aZ0) aP6 ⟨_,ax4 s,rfl,rfl⟩
 rcases hcs with ⟨e,he,hc⟩ | ⟨n,N,A,hw,_,hc,hl⟩
 ·exact ⟨[],[],e,hk _ hc,fun h=>absurd h he⟩
 ·refine ⟨an2 N A,W5 N A,0,hk _ hc,fun _ w hg hlw=>?_⟩
  rw[← hl w hg,← cJ1 hw]
  exact o8 (R:=ds4) cJ0 ⟨_,_,_,_,bP6 hw,hlw,rfl,rfl⟩
set_option maxHeartbeats 8000000 in
theorem bb2 (l : List Rw) (at_ bi : Int) (raw : List UInt8) (ws : List Int) (few : Int) : Ok Tryz.prog 3 [slR l,.int .i64 at_,.int .u8 bi,.str raw,slI ws,.int .i64 few] (.bool true) := by
 refine m7 (E:=EX mdC XMc) (cr:=noR) dj2 (q7 _) mixed (k:=30) Tryz.func3 (dj3 _) rfl ?_
 have hkn : XMc 4 [] = some (.bool true):=o8 (R:=ds3) cI7 ⟨rfl,rfl⟩
 have hfw : XMc 5 [slR l] = some (.bool (cq2 l)):=o8 (R:=ds1) cI2 ⟨_,rfl,rfl⟩
 have hon : XMc 6 [slR l] = some (j5 (ao7 l)):=o8 (R:=ds2) cI4 ⟨_,rfl,rfl⟩
 have r9:=@ed3 XMc
 obtain ⟨c9,h9⟩ : ∃ c,c = u9 [1,1,1,1,1,1,1,0] (Tryz.f3.body.getD .skip):=⟨_,rfl⟩
 rw[← h9] at r9
 simp only[Tryz.f3,Option.getD_some,u9] at h9
 simp only[Tryz.f3,Option.getD_some]
 rw[← h9]
 clear h9
 by_cases hf : cq2 l = true
 ·rw[hf] at hfw
  by_cases h3 : 60 < raw.length
  ·have h3' : (60 : Int) < raw.length:=by omega
   simp (disch:=omega) only[go_sem,hkn,hfw,h3']
  ·have h3' : ¬ (60 : Int) < raw.length:=by omega
   obtain ⟨htx,hpos,hmax,hma,hcs⟩:=dj4 hf
   generalize p6 0 (ao7 l) = s at *
   generalize hx : ao7 l = x at *
   generalize af2 x = mt at *
   clear hx hf
   obtain ⟨kk,se,lo,hi,c⟩:=x
   simp only[j5,n7] at hon htx hma
   have w1 : XMc 8 [.int .i64 at_,.int .i64 s.length] = some (.int .i64 (at_ % s.length)):=o8 (R:=RWb) dj0 ⟨_,_,by omega,by omega,rfl,rfl⟩
   have b0:=Int.emod_nonneg at_ (show (s.length : Int) ≠ 0 by omega)
   have b1:=Int.emod_lt_of_pos at_ (show (0 : Int) < s.length by omega)
   generalize at_ % (s.length : Int) = k0 at *
   have hcv:=di8
   have hat:=di6 (l:=s) (i:=k0.toNat) (s:=1) (by omega)
   have hset:=fun b=>di7 s k0.toNat b (by omega)
   obtain ⟨nb,hnb⟩:=bW2 (((s.getD k0.toNat 0).toNat : Int)+bi)
   generalize s.getD k0.toNat 0 = ob at *
   have hlY:=di5 s
   simp (disch:=omega) only[go_sem,hkn,hfw,h3',hon,htx,w1,hcv,hat,hset,hnb,hlY]
   have hlt : (s.set k0.toNat nb).length = s.length:=by simp
   generalize s.set k0.toNat nb = t at *
   refine r9 (s:=s) (t:=t) (raw:=raw) (g:=(5,41)) rfl rfl rfl hlt rfl ?_
   intro a9 g4 g5 g13 g14 g16
   have g4 : a9 4 = slI ws:=g4
   have g5 : a9 5 = .int .i64 few:=g5
   have g13 : a9 13 = .ptr (3,13) (3,13) 0:=g13
   obtain ⟨S,hS,hSl⟩ : ∃ S : List (List UInt8),[s,t,raw] = S∧S.length = 3:=⟨_,rfl,rfl⟩
   rw[hS]
   have hml : (cT S).length = 3:=by rw[cT,List.length_map,hSl]
   obtain ⟨N0,A0,e0,q0,hrun⟩:=cJ4 hcs
   clear hcs r9 hS hat hset hnb b0 b1 w1
   simp (disch:=omega) only[go_sem,g4,g5,g13,g14,g16]
   refine o9 (fun mm a o' nx'=>∃ j : Nat,j≤3∧mm = 3 - j∧8≤nx'∧a 4 = slI ws∧a 5 = .int .i64 few∧a 13 = .ptr (3,13) (3,13) 0∧a 14 = .str s∧a 16 = .ref (7,56) (7,56) 0 3∧a 17 = .int .i64 j∧o' (7,56) = some (.row ⟨9,1,(7,56),false,true,cT S⟩) ∧
     o' (3,13) = some (.row ⟨28,1,(3,13),false,true,[.int .i64 kk,.int .i64 se,.int .i64 lo,.int .i64 hi,slN c]⟩)) 3 (by omega)
    ⟨0,by omega,by omega,by omega,by simp (disch:=omega) only[go_sem,g4],by simp (disch:=omega) only[go_sem,g5],by simp (disch:=omega) only[go_sem,g13],by simp (disch:=omega) only[go_sem,g14],by simp (disch:=omega) only[go_sem,g16],by simp (disch:=omega) only[go_sem],by simp (disch:=omega) only[go_sem],by simp (disch:=omega) only[go_sem]⟩ ?_
   rintro mm a o nx ⟨j,hj,rfl,hnx,h4,h5,h13,h14,h16,h17,o56,o13⟩
   by_cases hj3 : j < 3
   ·have hat3:=di9 (l:=S) (i:=j) (by omega)
    obtain ⟨N,A,e,q1,q2,q3⟩:=cJ3 (S.getD j [])
    generalize S.getD j [] = r at *
    generalize A.length = k at *
    have hee : (e == e) = true:=beq_self_eq_true _
    simp (disch:=omega) only[go_sem,h4,h5,h13,h14,h16,h17,o56,o13,hat3,q1,q2,q3,hml,hee]
    first | exact ⟨3 - (j+1),by omega,j+1,by omega,rfl,by omega,rfl⟩ | exact ⟨3 - (j+1),by omega,j+1,by omega,rfl,rfl⟩
   ·have hj7 : j = 3:=by omega
    subst hj7
    clear g4 g5 g13 g14 g16
    clear g4 g5 g13
    simp (disch:=omega) only[go_sem,h4,h5,h13,h14,h16,h17,o56,o13,q0]
    generalize A0.length = k at *
    refine o9 (fun mm a o' nx'=>∃ j : Nat,j≤9∧mm = 9 - j∧nx+1 < nx'∧a 4 = slI ws∧a 5 = .int .i64 few∧a 13 = .ptr (3,13) (3,13) 0∧a 22 = .ptr (nx+1,22) (nx+1,22) 0∧a 23 = .int .i64 e0∧a 24 = .int .i64 j∧o' (nx+1,22) = some (.row ⟨37,1,(nx+1,22),false,true,[.sl k (cI N0),.sl k (cB A0)]⟩) ∧
      o' (3,13) = some (.row ⟨28,1,(3,13),false,true,[.int .i64 kk,.int .i64 se,.int .i64 lo,.int .i64 hi,slN c]⟩)) 9 (by omega)
     ⟨0,by omega,by omega,by omega,by simp (disch:=omega) only[go_sem,h4],by simp (disch:=omega) only[go_sem,h5],by simp (disch:=omega) only[go_sem,h13],by simp (disch:=omega) only[go_sem],by simp (disch:=omega) only[go_sem],by simp (disch:=omega) only[go_sem],by simp (disch:=omega) only[go_sem],by simp (disch:=omega) only[go_sem,o13]⟩ ?_
    clear h4 h5 h13 h14 h16 h17 o56 o13
    rintro mm a o' nx' ⟨i,hi,rfl,hnx',h4,h5,h13,h22,h23,h24,o22,o13⟩
    by_cases hi9 : i < 9
    ·by_cases he : e0 = 0
     ·subst he
      have hwd : XMc 12 [slI ws,.int .i64 i,.int .i64 few] = some (slI (L6 ws i few)):=o8 (R:=ca8) ca9 ⟨_,_,_,by omega,rfl,rfl⟩
      have hwl:=bF7 ws i few
      have hm1:=hrun rfl (L6 ws i few) (bW3 ws i few) (by omega)
      have hm2:=hma (L6 ws i few) (by omega)
      have hbe : (mt (L6 ws i few) == mt (L6 ws i few)) = true:=beq_self_eq_true _
      generalize mt (L6 ws i few) = z at *
      generalize L6 ws i few = w at *
      simp (disch:=omega) only[go_sem,h4,h5,h13,h22,h23,h24,o22,o13,hwd,hm1,hm2,hbe,Bool.not_true]
      first | exact ⟨9 - (i+1),by omega,i+1,by omega,rfl,rfl⟩ | exact ⟨9 - (i+1),by omega,i+1,by omega,rfl,by omega,rfl⟩
     ·simp (disch:=omega) only[go_sem,h4,h5,h13,h22,h23,h24,o22,o13,he]
    ·simp (disch:=omega) only[go_sem,h4,h5,h13,h22,h23,h24,o22,o13]
 ·rw[Bool.not_eq_true] at hf
  rw[hf] at hfw
  simp (disch:=omega) only[go_sem,hkn,hfw]
theorem cJ5 {P : Program} {t : TypeId} {x : AV} (hu : P.underlying t = some .string) (h : aA7 P t x) : ∃ b,x = .str b := by
 unfold aA7 at h
 rw[hu] at h
 obtain ⟨d,h⟩:=h
 cases d with
 | zero=>exact h.elim
 | succ d =>
  unfold Shaped at h
  rw[hu] at h
  obtain ⟨n,e,_⟩:=h
  injection e with e _
  exact ⟨n,e⟩
end Go.Proofs.YtpmjpogcaglphaaGreatDoor.A
namespace Go.Proofs.YtpmjpogcaglphaaGreatDoor
open Go Go.Proofs.YtpmjpogcaglphaaGreatDoor.A
set_option maxRecDepth 100000 in
theorem miniCompiles_lifted (os : Os) (started : os.Started) (H : Type) (enc : TypeId × Value→H) :
  ReturnsInHanded {} Tryz.checked os 3 .any (fun w args=>(Rows.miniCompilesSpec.pre enc Tryz.prog Tryz.f3 [] false w args∧laidMetH Tryz.prog laidL w)∧sizedMet enc Tryz.prog Tryz.f3 (OpenSpec.ofChange Rows.miniCompilesSpec) false w args) (Rows.miniCompilesSpec.post enc Tryz.prog Tryz.f3 false true false false) :=
 ce6 (C:=Tryz.checked) (L:=laidL) laidL_noh Tryz.own started (by kernel_rfl) Tryz.func3
  (ChangeSpec.witness_at (enc:=enc) (C:=Tryz.checked) (os:=os) (X:=fun w _=>laidMetH Tryz.prog laidL w) false (laidWorld os) #[.slice none 0 0,.int .i64 0,.int .u8 0,.string ⟨#[]⟩,.slice none 0 0,.int .i64 0] 8 rfl (by kernel_rfl) (by kernel_rfl) (by kernel_rfl) (by kernel_rfl) (by kernel_rfl) (laidWorld_met os _))
  Tryz.laidOut (ks:=[22,3,5,9,23,53]) (by kernel_rfl) (by kernel_rfl) (tb:=4) (by kernel_rfl) (by kernel_rfl) rfl
  (fun ds hds=>by
   match ds,hds with
   | [_,_,_,_,_,_],_=>exact ⟨rfl,rfl,rfl⟩)
  laid_gl (fun xs hxs=>by
   rw[show Tryz.f3.params.toList = [22,3,5,9,23,3] from rfl] at hxs
   match xs,hxs with
   | [x1,x2,x3,x4,x5,x6],⟨h1,h2,h3,h4,h5,h6,_⟩ =>
    obtain ⟨n1,rfl⟩:=co0 h1
    obtain ⟨n2,rfl,_⟩:=bd6 (k:=.i64) (by kernel_rfl) h2
    obtain ⟨n3,rfl,_⟩:=bd6 (k:=.u8) (by kernel_rfl) h3
    obtain ⟨n4,rfl⟩:=cJ5 (by kernel_rfl) h4
    obtain ⟨n5,rfl,_⟩:=ce4 (e:=3) (by kernel_rfl) (by kernel_rfl) h5
    obtain ⟨n6,rfl,_⟩:=bd6 (k:=.i64) (by kernel_rfl) h6
    exact bb2 n1 n2 n3 n4 n5 n6)
theorem miniCompiles_row_holds : Rows.MiniCompilesSaid :=
 OpenClaim.holds_of_wide 3 Tryz.f3 rfl rfl rfl rfl rfl rfl rfl ⟨rfl,rfl,rfl,rfl,rfl⟩ rfl rfl rfl rfl rfl (by kernel_rfl) Tryz.func3 (by kernel_rfl)
  (of_decide_eq_true (by kernel_rfl)) (by unfold Func.isWrapper;first | (rw[if_pos (by decide +kernel)];kernel_rfl) | (rw[if_neg (by decide +kernel)];exact ⟨rfl,rfl⟩))
  (fun os started H enc _=>miniCompiles_lifted os started H enc)
theorem miniCompiles_card_holds : Rows.MiniCompilesCardSaid :=
 Claim7.holds_tied_plain_at .later [] [.data, .data, .data] true (true, "8b70eef5c7ee87bcd6aecd0181ce635c410064db9b92057f09ab9c33720d341b") false
  miniCompiles_row_holds (fun _ h=>by cases h) (by kernel_rfl) (fun _ h=>by cases h) miniCompiles_row_tie rfl ⟨rfl,rfl⟩ (by kernel_rfl) rfl
  (fun f fn hf hfn=>by
   obtain rfl : f = 3 := (Option.some.inj ((show Tryz.prog.funcNamed "milestone/milestonelaw8.MiniCompiles" = some 3 by kernel_rfl).symm.trans hf)).symm
   obtain rfl : fn = Tryz.f3:=(Option.some.inj (Tryz.func3.symm.trans hfn)).symm
   refine ⟨by kernel_rfl,fun j t ht=>?_⟩
   exact (wants_all (by kernel_rfl : (Tryz.f3.params.toList.all fun t=>!Tryz.prog.wantsStandIn t) = true) ht))
  (by kernel_rfl)
end Go.Proofs.YtpmjpogcaglphaaGreatDoor
