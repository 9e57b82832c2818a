/- A, part 30: slices that a call makes, rows of them; pairs and steps in cells; a contract out of a walk. -/
import Derived.Test.YtpmjpogcaglphaaGreatDoorMLMCompiles3
set_option linter.unusedVariables false
set_option linter.unusedSimpArgs false
set_option linter.unnecessarySimpa false
namespace Go.Proofs.YtpmjpogcaglphaaGreatDoor.A
open Go
def cP (l : List (Int × Int)) : List AV := l.flatMap fun p=>[.int .i64 p.1,.int .i64 p.2]
def cS (l : List (Int × Int × Int)) : List AV := l.flatMap fun p=>[.int .i64 p.1,.int .i64 p.2.1,.int .i64 p.2.2]
@[go_sem] theorem dH9 : cP [] = [] := rfl
@[go_sem] theorem dI0 : cS [] = [] := rfl
theorem cp8 (x y) : cP (x++y) = cP x++cP y := by simp[cP]
theorem cp9 (x y) : cS (x++y) = cS x++cS y := by simp[cS]
@[go_sem] theorem L4 (l) : (cP l).length = l.length * 2 := by
 induction l with
 | nil=>rfl
 | cons p l ih=>simp only[cP,List.flatMap_cons,List.length_append,List.length_cons,List.length_nil] at ih ⊢;omega
@[go_sem] theorem al7 (l) : (cS l).length = l.length * 3 := by
 induction l with
 | nil=>rfl
 | cons p l ih=>simp only[cS,List.flatMap_cons,List.length_append,List.length_cons,List.length_nil] at ih ⊢;omega
@[go_sem] theorem dV0 (l) : (cP l).all w0 = true := by
 induction l with
 | nil=>rfl
 | cons p l ih=>simpa [cP,w0] using ih
@[go_sem] theorem dV1 (l) : (cS l).all w0 = true := by
 induction l with
 | nil=>rfl
 | cons p l ih=>simpa [cS,w0] using ih
@[go_sem] theorem dx0 (o d l) : (cP l).map (view o d) = cP l := by
 induction l with
 | nil=>rfl
 | cons p l ih=>simpa [cP,al5] using ih
@[go_sem] theorem dx1 (o d l) : (cS l).map (view o d) = cS l := by
 induction l with
 | nil=>rfl
 | cons p l ih=>simpa [cS,al5] using ih
@[go_sem] theorem dx2 (o d l) : (cP l).flatMap (d5 o d) = [] := by
 induction l with
 | nil=>rfl
 | cons p l ih=>simpa [cP,al6] using ih
@[go_sem] theorem dx3 (o d l) : (cS l).flatMap (d5 o d) = [] := by
 induction l with
 | nil=>rfl
 | cons p l ih=>simpa [cS,al6] using ih
theorem aV3 {l : List (Int × Int)} {i : Nat} (h : i < l.length) : (cP l).drop (i * 2) = .int .i64 (l.getD i (0,0)).1 :: .int .i64 (l.getD i (0,0)).2 :: cP (l.drop (i+1)) := by
 induction l generalizing i with
 | nil=>simp at h
 | cons p l ih =>
  cases i with
  | zero=>rfl
  | succ i =>
   have : (i+1) * 2 = i * 2+2:=by omega
   rw[this]
   have:=ih (i:=i) (by simpa using h)
   simpa [cP] using this
theorem cx1 {l : List (Int × Int × Int)} {i : Nat} (h : i < l.length) : (cS l).drop (i * 3) = .int .i64 (l.getD i (0,0,0)).1 :: .int .i64 (l.getD i (0,0,0)).2.1 :: .int .i64 (l.getD i (0,0,0)).2.2 :: cS (l.drop (i+1)) := by
 induction l generalizing i with
 | nil=>simp at h
 | cons p l ih =>
  cases i with
  | zero=>rfl
  | succ i =>
   have : (i+1) * 3 = i * 3+3:=by omega
   rw[this]
   have:=ih (i:=i) (by simpa using h)
   simpa [cS] using this
theorem au1 {cs : List AV} {i s : Nat} (h : i < cs.length) : N4 false s (cs.drop i) = some (cs.getD i .nil) := by
 rw[S6 h];simp[List.getD,h]
theorem j7 {α : Type} {l : List α} {n : Nat} (h : l.length = n) : l.take n = l := by rw[← h];exact List.take_length
theorem q8 {α : Type} {l : List α} {i : Nat} (h : i < l.length) (d : α) : l.take (i+1) = l.take i++[l.getD i d] := by
 rw[List.take_add_one];simp[List.getD,h]
@[go_sem] theorem dI1 (l) : (cI l).take l.length = cI l := j7 (by simp [cI])
@[go_sem] theorem cU8 (l) : (cB l).take l.length = cB l := j7 (by simp [cB])
@[go_sem] theorem dI2 (l) : (cP l).take (l.length * 2) = cP l := j7 (by simp [L4])
@[go_sem] theorem dI3 (l) : (cS l).take (l.length * 3) = cS l := j7 (by simp [al7])
def HS (e sz D : Nat) (o : Ob) (nx : Nat) (v : AV) (n : Nat) (cs : List AV) : Prop :=
 (v = .nil∧n = 0∧cs = []) ∨ ∃ i g,v = .ref (i,D) g 0 n∧i < nx∧o (i,D) = some (.row ⟨e,sz,g,false,true,cs⟩)∧cs.length = n * sz
theorem HS.nil {e sz D o nx} : HS e sz D o nx .nil 0 [] := .inl ⟨rfl,rfl,rfl⟩
theorem HS.keep {e sz D o nx v n cs} (h : HS e sz D o nx v n cs) {o' : Ob} {nx' : Nat} (ho : ∀ i,i < nx→o' (i,D) = o (i,D)) (hn : nx≤nx') : HS e sz D o' nx' v n cs := by
 rcases h with h | ⟨i,g,h1,h2,h3,h4⟩
 ·exact .inl h
 ·exact .inr ⟨i,g,h1,by omega,by rw[ho i h2,h3],h4⟩
theorem HS.ok {e sz D o nx v n cs} (h : HS e sz D o nx v n cs) : w0 v = true := by
 rcases h with ⟨rfl,_⟩ | ⟨i,g,rfl,_⟩ <;> rfl
theorem HS.cells {e sz D o nx v n cs} (h : HS e sz D o nx v n cs) : v.cells = [v] := by
 rcases h with ⟨rfl,_⟩ | ⟨i,g,rfl,_⟩ <;> rfl
theorem HS.len {e sz D o nx v n cs} (h : HS e sz D o nx v n cs) : cs.length = n * sz := by
 rcases h with ⟨_,rfl,rfl⟩ | ⟨i,g,_,_,_,h⟩
 ·simp
 ·exact h
theorem HS.view {e sz D o nx v n cs} (h : HS e sz D o nx v n cs) (d : Nat) : view o (d+1) v = .sl n (cs.map (view o d)) := by
 rcases h with ⟨rfl,rfl,rfl⟩ | ⟨i,g,rfl,_,h3,h4⟩
 ·rfl
 ·rw[bZ4,h3,aq2,bt4]
  simp only[Nat.zero_add,List.drop_zero]
  rw[if_pos (by omega),j7 h4]
theorem bk5 {D : Nat} {l : List Tag} (h : ∀ t ∈ l,t.2 = D) {i j : Nat} (hj : j ≠ D) : nin (i,j) l = true := by
 unfold nin
 have : (i,j) ∉ l:=fun hm=>hj (h _ hm)
 simp[this]
theorem HS.tags {e sz D o nx v n cs} (h : HS e sz D o nx v n cs) (d : Nat) (hf : cs.flatMap (d5 o d) = []) : ∀ t ∈ d5 o (d+1) v,t.2 = D := by
 rcases h with ⟨rfl,rfl,rfl⟩ | ⟨i,g,rfl,_,h3,h4⟩
 ·intro t ht;cases ht
 ·rw[bZ7,h3,aq2,bt5,List.drop_zero,j7 h4,hf]
  intro t ht
  rw[List.mem_singleton.1 ht]
theorem HS.nin {e sz D o nx v n cs} (h : HS e sz D o nx v n cs) (d : Nat) (hf : cs.flatMap (d5 o d) = []) {i j : Nat} (hj : j ≠ D) : A.nin (i,j) (d5 o (d+1) v) = true := bk5 (h.tags d hf) hj
def NI (D : Nat) (o : Ob) (nx : Nat) (cs : List AV) (rows : List (List Int)) : Prop :=
 cs.length = rows.length∧(∀ j,j < rows.length→HS 3 1 D o nx (cs.getD j .nil) (rows.getD j []).length (cI (rows.getD j []))) ∧
  ∀ j j' i g n g' n',j < j'→cs.getD j .nil = .ref (i,D) g 0 n→cs.getD j' .nil ≠ .ref (i,D) g' 0 n'
theorem NI.keep {D o nx cs rows} (h : NI D o nx cs rows) {o' : Ob} {nx' : Nat} (ho : ∀ i,i < nx→o' (i,D) = o (i,D)) (hn : nx≤nx') : NI D o' nx' cs rows :=
 ⟨h.1,fun j hj=>(h.2.1 j hj).keep ho hn,h.2.2⟩
theorem NI.start (D o nx) (n : Nat) : NI D o nx (List.replicate n .nil) (List.replicate n []) := by
 refine ⟨by simp,fun j hj=>?_,fun j j' i g m g' m' hj h=>?_⟩
 ·have hj : j < n:=by simpa using hj
  have e1 : (List.replicate n AV.nil).getD j .nil = .nil:=by simp[List.getD,List.getElem?_replicate,hj]
  have e2 : (List.replicate n ([] : List Int)).getD j [] = []:=by simp[List.getD,List.getElem?_replicate,hj]
  rw[e1,e2]
  exact .inl ⟨rfl,rfl,rfl⟩
 ·by_cases hj : j < n
  ·have e1 : (List.replicate n AV.nil).getD j .nil = .nil:=by simp[List.getD,List.getElem?_replicate,hj]
   rw[e1] at h;cases h
  ·have e1 : (List.replicate n AV.nil).getD j .nil = .nil:=by simp[List.getD,List.getElem?_replicate,hj]
   rw[e1] at h;cases h
theorem D2 {α : Type} (l : List α) (i j : Nat) (x d : α) (hi : i < l.length) : (l.set i x).getD j d = if i = j then x else l.getD j d := by
 simp only[List.getD,List.getElem?_set]
 by_cases h : i = j
 ·subst h;simp[hi]
 ·simp[h]
theorem NI.set {D o nx cs rows} (h : NI D o nx cs rows) {j : Nat} (hj : j < rows.length) {o' : Ob} {nx' : Nat} {i : Nat} {g : Tag} {l : List Int} {n : Nat} (hl : n = l.length) (hn : nx≤nx') (hi : i < nx')
  (hnew : cs.getD j .nil = .nil∧nx≤i ∨ ∃ g0 n0,cs.getD j .nil = .ref (i,D) g0 0 n0) (ho : ∀ i',i' < nx→i' ≠ i→o' (i',D) = o (i',D)) (hrow : o' (i,D) = some (.row ⟨3,1,g,false,true,cI l⟩)) :
  NI D o' nx' (cs.set j (.ref (i,D) g 0 n)) (rows.set j l):=by
 subst hl
 obtain ⟨h1,h2,h3⟩:=h
 have hjc : j < cs.length:=by omega
 have apart : ∀ j',j' ≠ j→∀ g' n',cs.getD j' .nil = .ref (i,D) g' 0 n'→j' < rows.length→False:=fun j' hne g' n' he hlt=>by
  rcases hnew with ⟨_,hi'⟩ | ⟨g0,n0,he0⟩
  ·rcases h2 j' hlt with ⟨e,_⟩ | ⟨i1,g1,e,hi1,_⟩
   ·rw[e] at he;cases he
   ·rw[e] at he;injection he with he;injection he with he;omega
  ·rcases Nat.lt_or_gt_of_ne hne with hlt' | hlt'
   ·exact h3 j' j i g' n' g0 n0 hlt' he he0
   ·exact h3 j j' i g0 n0 g' n' hlt' he0 he
 have out : ∀ j',¬ j' < rows.length→cs.getD j' .nil = .nil:=fun j' hj'=>by
  simp[List.getD,List.getElem?_eq_none (show cs.length≤j' by omega)]
 refine ⟨by simpa using h1,fun j' hj'=>?_,fun j1 j2 i1 g1 n1 g2 n2 hlt e1 e2=>?_⟩
 ·have hj'' : j' < rows.length:=by simpa using hj'
  rw[D2 _ _ _ _ _ hjc,D2 _ _ _ _ _ hj]
  by_cases e : j = j'
  ·rw[if_pos e,if_pos e]
   exact .inr ⟨i,g,rfl,hi,hrow,by simp[cI]⟩
  ·rw[if_neg e,if_neg e]
   rcases h2 j' hj'' with hh | ⟨i1,g1,e1,hi1,e3,e4⟩
   ·exact .inl hh
   ·refine .inr ⟨i1,g1,e1,by omega,?_,e4⟩
    rw[ho i1 hi1 (fun hc=>by subst hc;exact apart j' (fun hc=>e hc.symm) _ _ e1 hj''),e3]
 ·rw[D2 _ _ _ _ _ hjc] at e1 e2
  have bound : ∀ j',(∃ i g n,cs.getD j' .nil = .ref i g 0 n)→j' < rows.length:=fun j' ⟨i,g,n,he⟩=>by
   by_cases hb : j' < rows.length
   ·exact hb
   ·rw[out j' hb] at he;cases he
  by_cases c1 : j = j1
  ·rw[if_pos c1] at e1
   rw[if_neg (by omega)] at e2
   injection e1 with e1;injection e1 with e1
   subst e1
   exact apart j2 (by omega) _ _ e2 (bound j2 ⟨_,_,_,e2⟩)
  ·rw[if_neg c1] at e1
   by_cases c2 : j = j2
   ·rw[if_pos c2] at e2
    injection e2 with e2;injection e2 with e2
    subst e2
    exact apart j1 (by omega) _ _ e1 (bound j1 ⟨_,_,_,e1⟩)
   ·rw[if_neg c2] at e2
    exact h3 j1 j2 i1 g1 n1 g2 n2 hlt e1 e2
theorem NI.view {D o nx cs rows} (h : NI D o nx cs rows) (d : Nat) : cs.map (A.view o (d+1)) = rows.map slI := by
 refine List.ext_getElem (by simpa using h.1) fun j h1 h2=>?_
 have hj : j < rows.length:=by simpa using h2
 have hjc : j < cs.length:=by simpa using h1
 have:=h.2.1 j hj
 have e1 : cs.getD j .nil = cs[j]:=by simp[List.getD,hjc]
 have e2 : rows.getD j [] = rows[j]:=by simp[List.getD,hj]
 rw[e1,e2] at this
 simp only[List.getElem_map]
 rw[this.view,X5]
def N2 (R : List AV→AV→Prop) : Prop := ∀ args r r',R args r→R args r'→r = r'
open Classical in
noncomputable def D9 (R : List AV→AV→Prop) : List AV→Option AV := fun args=>if h : ∃ r,R args r then some h.choose else none
theorem o8 {R : List AV→AV→Prop} (hf : N2 R) {args : List AV} {r : AV} (h : R args r) : D9 R args = some r := by
 unfold D9
 rw[dif_pos ⟨r,h⟩]
 exact congrArg some (hf _ _ _ (Exists.choose_spec (p:=R args) ⟨r,h⟩) h)
theorem n8 {P : Program} {f : FuncId} {R : List AV→AV→Prop} (hk : ∀ args r,R args r→Ok P f args r) : ∀ args r,D9 R args = some r→Ok P f args r := fun args r h=>by
 unfold D9 at h
 split at h
 ·rename_i hh
  injection h with h
  subst h
  exact hk _ _ hh.choose_spec
 ·cases h
theorem V7 {x y : List Int} (h : cI x = cI y) : x = y := by
 unfold cI at h
 exact List.map_inj_right (fun a b h=>by injection h) |>.1 h
theorem ah9 {x y : List Bool} (h : cB x = cB y) : x = y := by
 unfold cB at h
 exact List.map_inj_right (fun a b h=>by injection h) |>.1 h
theorem ai8 {x y : List Int} (h : slI x = slI y) : x = y := by
 unfold slI at h;injection h with _ h;exact V7 h
theorem ca3 {x y : List (List Int)} (h : x.map slI = y.map slI) : x = y := List.map_inj_right (fun a b h=>ai8 h) |>.1 h
theorem au2 : ∀ {x y : List (Int × Int)},cP x = cP y→x = y
 | [],[],_=>rfl
 | [],_ :: _,h=>by cases h
 | _ :: _,[],h=>by cases h
 | (a,b) :: x,(c,d) :: y,h=>by
  simp only[cP,List.flatMap_cons,List.cons_append,List.nil_append,List.cons.injEq,AV.int.injEq,true_and] at h
  obtain ⟨rfl,rfl,h⟩:=h
  rw[au2 h]
theorem aJ8 : ∀ {x y : List (Int × Int × Int)},cS x = cS y→x = y
 | [],[],_=>rfl
 | [],_ :: _,h=>by cases h
 | _ :: _,[],h=>by cases h
 | (a,b,e) :: x,(c,d,f) :: y,h=>by
  simp only[cS,List.flatMap_cons,List.cons_append,List.nil_append,List.cons.injEq,AV.int.injEq,true_and] at h
  obtain ⟨rfl,rfl,rfl,h⟩:=h
  rw[aJ8 h]
theorem bt6 {E : Env} {cr : v8} {k : Nat} {nz : Nat→Option (List (Nat × Nat))} {fn : Func} {c : Code} {args : List AV} {r : AV} (hb : fn.body = some c)
  (h : WP E cr k nz c (A2 args) (fun _=>none) 0 (fun u a o nx=>(u = .normal ∨ u = .ret)∧wO (s7 E.P a ⟨o,nx⟩ fn.results.toList) (fun vs=>A.view o p9 (ac3 vs) = r))) :
  ∃ v H',av2 E cr k nz fn args aS1 = some (v,H')∧A.view H'.o p9 v = r:=by
 unfold WP at h
 unfold av2 aS1
 rw[hb]
 dsimp only
 cases he : D5 E (fun _ _=>none) cr k nz none c (A2 args) { o:=fun _=>none,nx:=0 } with
 | none=>rw[he] at h;exact h.elim
 | some p =>
  obtain ⟨u,a,H⟩:=p
  rw[he] at h
  obtain ⟨hu,h⟩:=h
  obtain ⟨vs,h1,h2⟩ : ∃ vs,s7 E.P a H fn.results.toList = some vs∧A.view H.o p9 (ac3 vs) = r:=by
   unfold wO at h
   split at h
   ·rename_i vs e;exact ⟨vs,e,h⟩
   ·exact h.elim
  rcases hu with rfl | rfl
  ·dsimp only
   refine ⟨ac3 vs,H,?_,h2⟩
   show (s7 E.P a H fn.results.toList).map _ = _
   rw[show s7 E.P a H fn.results.toList = some vs from h1];rfl
  ·dsimp only
   refine ⟨ac3 vs,H,?_,h2⟩
   show (s7 E.P a H fn.results.toList).map _ = _
   rw[show s7 E.P a H fn.results.toList = some vs from h1];rfl
theorem m7 {E : Env} {cr : v8} (hX : s6 E.P E.ext) (hR : x8 E.P cr∧Up cr) (hm : E.P.follows .mixedOrders = true) {k : Nat} {nz : Nat→Option (List (Nat × Nat))} {fn : Func} {f : FuncId} {args : List AV} {r : AV} (hf : E.P.funcs[f]? = some fn)
  (hl : d9 E nz args.length fn = true) (hb : fn.body = some (fn.body.getD .skip))
  (h : WP E cr k nz (fn.body.getD .skip) (A2 args) (fun _=>none) 0 (fun u a o nx=>(u = .normal ∨ u = .ret)∧wO (s7 E.P a ⟨o,nx⟩ fn.results.toList) (fun vs=>A.view o p9 (ac3 vs) = r))) : Ok E.P f args r:=by
 obtain ⟨v,H',h1,h2⟩:=bt6 hb h
 rw[← h2]
 exact cP3 hX hR.1 hR.2 hm hf hl h1
def noR : v8 := fun _ _ _=>none
theorem q7 (P : Program) : x8 P noR∧Up noR := ⟨fun g args H v H' h=>(by cases h),fun g args H v H' h=>(by cases h)⟩
@[go_sem] theorem V8 (P a H) : s7 P a H [] = some [] := rfl
@[go_sem] theorem R4 (P a H r rs) : s7 P a H (r :: rs) = bt3 (ai2 P a H r) (s7 P a H rs) := rfl
@[go_sem] theorem aa7 (P a H t) : ai2 P a H (.tmp t) = some (a t) := rfl
@[go_sem] theorem V9 (P a H ad t) : ai2 P a H (.cell ad t) = N8 P t (a ad) H := rfl
@[go_sem] theorem dp5 (v) : ac3 [v] = v := rfl
@[go_sem] theorem dp6 (v w) : ac3 [v, w] = .tup [v, w] := rfl
@[go_sem] theorem cO0 (v w x) : ac3 [v, w, x] = .tup [v, w, x] := rfl
def u9 : List Nat→Code→Code
 | [],c=>c
 | 0 :: p,.seq a _=>u9 p a
 | 1 :: p,.seq _ b=>u9 p b
 | 0 :: p,.block _ c=>u9 p c
 | 0 :: p,.loop c=>u9 p c
 | 0 :: p,.scope c=>u9 p c
 | 0 :: p,.cond _ a _=>u9 p a
 | 1 :: p,.cond _ _ b=>u9 p b
 | _,c=>c
attribute [go_sem ↓] IntWalk.iteOmega
attribute [go_sem] IntWalk.toNatUp Nat.reduceEqDiff Nat.reduceAdd Nat.reduceMul Nat.reduceSub Nat.reduceLT Nat.reduceLeDiff Int.reduceToNat Int.reduceLT Int.reduceLE Int.reduceEq Int.reduceAdd Int.reduceSub Int.reduceMul Int.toNat_natCast reduceCtorEq decide_true decide_false IntWalk.i64_in IntWalk.u64_in IntWalk.u8_in
end Go.Proofs.YtpmjpogcaglphaaGreatDoor.A
namespace Go.Proofs.YtpmjpogcaglphaaGreatDoor.A
open Go
abbrev dp7 := List AV→AH→AV→AH→Prop
open Classical in
noncomputable def B1 (R : dp7) (args : List AV) (H : AH) : Option (AV × AH) := if h : ∃ p : AV × AH,R args H p.1 p.2 then some h.choose else none
theorem u0 {R : dp7} {args H v H'} (h : B1 R args H = some (v,H')) : R args H v H' := by
 unfold B1 at h
 split at h
 ·rename_i e
  have:=e.choose_spec
  injection h with h
  rw[h] at this
  exact this
 ·cases h
theorem F6 {R : dp7} {args : List AV} {H : AH} {K : AV × AH→Prop} (h1 : ∃ v H',R args H v H') (h2 : ∀ v H',R args H v H'→K (v,H')) : wO (Option.map (fun p=>t8 false p.1 p.2) (B1 R args H)) K := by
 obtain ⟨v,H',h⟩:=h1
 have e : ∃ p : AV × AH,R args H p.1 p.2:=⟨(v,H'),h⟩
 have e2 : B1 R args H = some e.choose:=by unfold B1;rw[dif_pos e]
 rw[e2]
 exact h2 _ _ e.choose_spec
theorem U4 {E : Env} {cr : v8} {k : Nat} {nz : Nat→Option (List (Nat × Nat))} {fn : Func} {c : Code} {args : List AV} {o : Ob} {nx : Nat} {Post : AV→Ob→Nat→Prop} (hb : fn.body = some c)
  (h : WP E cr k nz c (A2 args) o nx (fun u a o' nx'=>(u = .normal ∨ u = .ret)∧wO (s7 E.P a ⟨o',nx'⟩ fn.results.toList) (fun vs=>Post (ac3 vs) o' nx'))) :
  ∃ v H',av2 E cr k nz fn args ⟨o,nx⟩ = some (v,H')∧Post v H'.o H'.nx:=by
 unfold WP at h
 unfold av2
 rw[hb]
 dsimp only
 cases he : D5 E (fun _ _=>none) cr k nz none c (A2 args) ⟨o,nx⟩ with
 | none=>rw[he] at h;exact h.elim
 | some p =>
  obtain ⟨u,a,H⟩:=p
  rw[he] at h
  obtain ⟨hu,h⟩:=h
  obtain ⟨vs,h1,h2⟩ : ∃ vs,s7 E.P a H fn.results.toList = some vs∧Post (ac3 vs) H.o H.nx:=by
   unfold wO at h
   split at h
   ·rename_i vs e;exact ⟨vs,e,h⟩
   ·exact h.elim
  rcases hu with rfl | rfl
  ·dsimp only
   refine ⟨ac3 vs,H,?_,h2⟩
   show (s7 E.P a H fn.results.toList).map _ = _
   rw[show s7 E.P a H fn.results.toList = some vs from h1];rfl
  ·dsimp only
   refine ⟨ac3 vs,H,?_,h2⟩
   show (s7 E.P a H fn.results.toList).map _ = _
   rw[show s7 E.P a H fn.results.toList = some vs from h1];rfl
theorem D6 {E : Env} {cr : v8} (hX : s6 E.P E.ext) (hR : x8 E.P cr∧Up cr) (hm : E.P.follows .mixedOrders = true) {k : Nat} {nz : Nat→Option (List (Nat × Nat))} {fn : Func} {f : FuncId} {args : List AV} {o : Ob} {nx : Nat} {Post : AV→Ob→Nat→Prop} (hf : E.P.funcs[f]? = some fn)
  (hl : d9 E nz args.length fn = true) (hb : fn.body = some (fn.body.getD .skip))
  (h : WP E cr k nz (fn.body.getD .skip) (A2 args) o nx (fun u a o' nx'=>(u = .normal ∨ u = .ret)∧wO (s7 E.P a ⟨o',nx'⟩ fn.results.toList) (fun vs=>Post (ac3 vs) o' nx'))) : ∃ v H',OkR E.P f args ⟨o,nx⟩ v H'∧Post v H'.o H'.nx:=by
 obtain ⟨v,H',h1,h2⟩:=U4 hb h
 exact ⟨v,H',L0 hX hR.1 hR.2 hm hf hl h1,h2⟩
end Go.Proofs.YtpmjpogcaglphaaGreatDoor.A
namespace Go.Proofs.YtpmjpogcaglphaaGreatDoor.A
open Go
section
variable (E : Env) (cr : v8) (k : Nat) (nz : Nat→Option (List (Nat × Nat)))
end
section
variable {E : Env} {cr : v8} {k : Nat} {nz : Nat→Option (List (Nat × Nat))}
end
end Go.Proofs.YtpmjpogcaglphaaGreatDoor.A
namespace Go.Proofs.YtpmjpogcaglphaaGreatDoor.A
open Go
section
variable {T : Type} [DecidableEq T] (f : T→Nat→T)
def ao6 (S : List T) (t : T) : List T := if t ∈ S then S else S++[t]
def H7 (x : T) : Nat→List T→List T × List Nat
 | 0,S=>(S,[])
 | m+1,S=>(ao6 (H7 x m S).1 (f x m),(H7 x m S).2++[(H7 x m S).1.idxOf (f x m)])
def bt7 (cap : Nat) : Nat→Nat→List T→List Nat→Option (List T × List Nat)
 | 0,_,_,_=>none
 | k+1,i,S,R=>match S[i]? with
  | none=>some (S,R)
  | some x=>if cap < (H7 f x 5 S).1.length then none else bt7 cap k (i+1) (H7 f x 5 S).1 (R++(H7 f x 5 S).2)
variable {f}
theorem aN8 {α : Type} {l l' : List α} (h : l <+: l') {k : Nat} {y : α} (hk : l[k]? = some y) : l'[k]? = some y := by
 obtain ⟨t,rfl⟩:=h
 rw[List.getElem?_append_left (List.getElem?_eq_some_iff.1 hk).1]
 exact hk
theorem bF5 (S : List T) (t : T) (h : t ∈ S) : ao6 S t = S := if_pos h
theorem al8 (S : List T) (t : T) (h : t ∉ S) : ao6 S t = S++[t] := if_neg h
theorem aN9 (S : List T) (t : T) : S <+: ao6 S t := by
 unfold ao6
 split
 ·exact List.prefix_refl _
 ·exact List.prefix_append _ _
theorem bt8 {S : List T} {t : T} (h : S.Nodup) : (ao6 S t).Nodup := by
 unfold ao6
 split
 ·exact h
 ·rename_i hn
  rw[List.nodup_append]
  exact ⟨h,by simp,fun a ha b hb=>by rw[List.mem_singleton.1 hb];exact fun e=>hn (e ▸ ha)⟩
theorem ca4 (S : List T) (t : T) : (ao6 S t).length = max S.length (S.idxOf t+1) := by
 unfold ao6
 by_cases h : t ∈ S
 ·rw[if_pos h]
  have:=List.idxOf_lt_length_of_mem h
  omega
 ·rw[if_neg h,List.length_append,List.idxOf_eq_length h]
  simp
theorem ca5 (S : List T) (t : T) : (ao6 S t)[S.idxOf t]? = some t := by
 unfold ao6
 by_cases h : t ∈ S
 ·rw[if_pos h]
  have:=List.idxOf_lt_length_of_mem h
  rw[List.getElem?_eq_getElem this,List.getElem_idxOf this]
 ·rw[if_neg h,List.idxOf_eq_length h]
  simp
theorem ca6 (S : List T) (t : T) : S.idxOf t≤S.length := List.idxOf_le_length
theorem ag3 (x : T) (m S) : (H7 f x m S).2.length = m := by
 induction m with
 | zero=>rfl
 | succ m ih=>simp[H7,ih]
theorem aw1 (x : T) (m S) : S <+: (H7 f x m S).1 := by
 induction m with
 | zero=>exact List.prefix_refl _
 | succ m ih=>exact ih.trans (aN9 _ _)
theorem aB3 (x : T) (S) {m n : Nat} (h : m≤n) : (H7 f x m S).1 <+: (H7 f x n S).1 := by
 induction n with
 | zero=>rw[Nat.le_zero.1 h];exact List.prefix_refl _
 | succ n ih =>
  by_cases e : m = n+1
  ·rw[e];exact List.prefix_refl _
  ·exact (ih (by omega)).trans (aN9 _ _)
theorem bt9 (x : T) (m) {S} (h : S.Nodup) : (H7 f x m S).1.Nodup := by
 induction m with
 | zero=>exact h
 | succ m ih=>exact bt8 ih
theorem aO0 (p : T→Prop) (x : T) (hf : ∀ m,p (f x m)) (m) {S : List T} (h : ∀ y ∈ S,p y) : ∀ y ∈ (H7 f x m S).1,p y := by
 induction m with
 | zero=>exact h
 | succ m ih =>
  intro y hy
  simp only[H7,ao6] at hy
  split at hy
  ·exact ih y hy
  ·rcases List.mem_append.1 hy with hy | hy
   ·exact ih y hy
   ·rw[List.mem_singleton.1 hy];exact hf m
theorem aV4 (x : T) (S) {m n : Nat} (h : m≤n) : (H7 f x n S).2.take m = (H7 f x m S).2 := by
 induction n with
 | zero=>rw[Nat.le_zero.1 h];rfl
 | succ n ih =>
  by_cases e : m = n+1
  ·rw[e];exact List.take_of_length_le (by rw[ag3];exact Nat.le_refl _)
  ·have hl : (H7 f x n S).2.length = n:=ag3 x n S
   simp only[H7]
   rw[List.take_append_of_le_length (by omega),ih (by omega)]
theorem bk6 (x : T) (S) {m j : Nat} (h : j < m) : ∃ k,(H7 f x m S).2[j]? = some k∧k = (H7 f x j S).1.idxOf (f x j)∧(H7 f x m S).1[k]? = some (f x j) := by
 have h1 : (H7 f x m S).2[j]? = some ((H7 f x j S).1.idxOf (f x j)):=by
  have:=aV4 (f:=f) x S (show j+1≤m by omega)
  have h2 : ((H7 f x m S).2.take (j+1))[j]? = (H7 f x m S).2[j]?:=by rw[List.getElem?_take];simp
  rw[← h2,this]
  simp[H7,ag3]
 refine ⟨_,h1,rfl,?_⟩
 have hp:=aB3 (f:=f) x S (show j+1≤m by omega)
 have hg:=ca5 (H7 f x j S).1 (f x j)
 exact aN8 hp hg
theorem aV5 (x : T) (S : List T) (m : Nat) (hS : 1≤S.length) : (H7 f x m S).1.length = (H7 f x m S).2.foldl max (S.length - 1)+1 := by
 induction m with
 | zero=>simp[H7];omega
 | succ m ih =>
  simp only[H7,List.foldl_append,List.foldl_cons,List.foldl_nil,ca4]
  omega
end
section
variable {T : Type}
structure MidS (f : T→Nat→T) (t0 : T) (i : Nat) (S : List T) (R : List Nat) : Prop where
 nodup : S.Nodup
 head : S[0]? = some t0
 le : i≤S.length
 len : R.length = 5 * i
 leads : ∀ j m,j < i→m < 5→∃ x k,S[j]? = some x∧R[5 * j+m]? = some k∧S[k]? = some (f x m)
 most : S.length = R.foldl max 0+1
 met : ∀ q k,R[q]? = some k→k≤(R.take q).foldl max 0+1
 seen : ∀ j,j < i→j≤(R.take (5 * j)).foldl max 0
variable {f : T→Nat→T}
theorem MidS.start (t0 : T) : MidS f t0 0 [t0] [] where
 nodup:=by simp
 head:=rfl
 le:=by simp
 len:=rfl
 leads:=fun j m h=>absurd h (by omega)
 most:=rfl
 met:=fun q k h=>by cases h
 seen:=fun j h=>absurd h (by omega)
end
section
variable {T : Type} [DecidableEq T]
variable {f : T→Nat→T}
theorem MidS.next {t0 : T} {i : Nat} {S : List T} {R : List Nat} (h : MidS f t0 i S R) {x : T} (hx : S[i]? = some x) : MidS f t0 (i+1) (H7 f x 5 S).1 (R++(H7 f x 5 S).2) := by
 have hpre:=aw1 (f:=f) x 5 S
 have hlt : i < S.length:=by
  by_cases hc : i < S.length
  ·exact hc
  ·rw[List.getElem?_eq_none (by omega)] at hx;cases hx
 have hpl:=hpre.length_le
 have hrl : (H7 f x 5 S).2.length = 5:=ag3 x 5 S
 have hm : S.length - 1 = R.foldl max 0:=by have:=h.most;omega
 have keep : ∀ {k : Nat} {y : T},S[k]? = some y→(H7 f x 5 S).1[k]? = some y:=fun hk=>aN8 hpre hk
 refine ⟨bt9 x 5 h.nodup,keep h.head,by omega,by rw[List.length_append,h.len,hrl];omega,fun j m hj hm5=>?_,?_,fun q k hq=>?_,fun j hj=>?_⟩
 ·by_cases e : j < i
  ·obtain ⟨y,k,h1,h2,h3⟩:=h.leads j m e hm5
   exact ⟨y,k,keep h1,by rw[List.getElem?_append_left (by rw[h.len];omega)];exact h2,keep h3⟩
  ·have : j = i:=by omega
   subst this
   obtain ⟨k,h1,_,h2⟩:=bk6 (f:=f) x S hm5
   exact ⟨x,k,keep hx,by rw[List.getElem?_append_right (by rw[h.len];omega),h.len];simpa using h1,h2⟩
 ·have:=aV5 (f:=f) x S 5 (by omega)
  rw[this,hm,List.foldl_append]
 ·by_cases e : q < R.length
  ·rw[List.getElem?_append_left e] at hq
   rw[List.take_append_of_le_length (by omega)]
   exact h.met q k hq
  ·rw[List.getElem?_append_right (by omega)] at hq
   obtain ⟨j,rfl⟩ : ∃ j,q = R.length+j:=⟨q - R.length,by omega⟩
   rw[Nat.add_sub_cancel_left] at hq
   have hj5 : j < 5:=by
    by_cases hc : j < 5
    ·exact hc
    ·rw[List.getElem?_eq_none (by omega)] at hq;cases hq
   obtain ⟨k',h1,h2,_⟩:=bk6 (f:=f) x S hj5
   rw[h1] at hq
   injection hq with hq
   subst hq
   rw[List.take_length_add_append,aV4 x S (by omega : j≤5),List.foldl_append,← hm]
   have:=aV5 (f:=f) x S j (by omega)
   have:=ca6 (H7 f x j S).1 (f x j)
   omega
 ·by_cases e : j < i
  ·rw[List.take_append_of_le_length (by rw[h.len];omega)]
   exact h.seen j e
  ·have : j = i:=by omega
   subst this
   rw[← h.len,List.take_left' rfl]
   omega
theorem G4 (cap k i : Nat) (S : List T) (R : List Nat) : bt7 f cap (k+1) i S R = match S[i]? with
  | none=>some (S,R)
  | some x=>if cap < (H7 f x 5 S).1.length then none else bt7 f cap k (i+1) (H7 f x 5 S).1 (R++(H7 f x 5 S).2):=rfl
theorem bk7 {t0 : T} {cap : Nat} : ∀ {k i : Nat} {S : List T} {R : List Nat} {S' R'},MidS f t0 i S R→bt7 f cap k i S R = some (S',R')→MidS f t0 S'.length S' R'
 | 0,_,_,_,_,_,_,h=>by cases h
 | k+1,i,S,R,S',R',hm,h=>by
  rw[G4] at h
  cases hx : S[i]? with
  | none =>
   rw[hx] at h
   injection h with h
   injection h with h1 h2
   subst h1 h2
   have hle:=hm.le
   have hge:=List.getElem?_eq_none_iff.1 hx
   have : i = S.length:=by omega
   rw[← this]
   exact hm
  | some x =>
   rw[hx] at h
   dsimp only at h
   split at h
   ·cases h
   ·exact bk7 (hm.next hx) h
theorem bk8 {cap : Nat} : ∀ {k i : Nat} {S : List T} {R : List Nat} {S' R'},S.length≤cap→bt7 f cap k i S R = some (S',R') →
  S.length≤S'.length∧S'.length≤cap∧∀ c,(S'.length≤c→bt7 f c k i S R = some (S',R'))∧(c < S'.length→S.length≤c→bt7 f c k i S R = none)
 | 0,_,_,_,_,_,_,h=>by cases h
 | k+1,i,S,R,S',R',hS,h=>by
  rw[G4] at h
  cases hx : S[i]? with
  | none =>
   rw[hx] at h
   injection h with h
   injection h with h1 h2
   subst h1 h2
   refine ⟨Nat.le_refl _,hS,fun c=>⟨fun _=>?_,fun h1 h2=>absurd h1 (by omega)⟩⟩
   rw[G4,hx]
  | some x =>
   rw[hx] at h
   dsimp only at h
   split at h
   ·cases h
   ·rename_i hc
    have hp:=(aw1 (f:=f) x 5 S).length_le
    obtain ⟨h1,h2,h3⟩:=bk8 (by omega) h
    refine ⟨by omega,h2,fun c=>⟨fun hh=>?_,fun hh hh2=>?_⟩⟩
    ·rw[G4,hx]
     dsimp only
     rw[if_neg (by omega)]
     exact (h3 c).1 hh
    ·rw[G4,hx]
     dsimp only
     split
     ·rfl
     ·exact (h3 c).2 hh (by omega)
theorem bk9 {cap : Nat} (p : T→Prop) (hf : ∀ x m,p x→p (f x m)) : ∀ {k i : Nat} {S : List T} {R : List Nat} {S' R'},(∀ y ∈ S,p y)→bt7 f cap k i S R = some (S',R')→∀ y ∈ S',p y
 | 0,_,_,_,_,_,_,h=>by cases h
 | k+1,i,S,R,S',R',ha,h=>by
  rw[G4] at h
  cases hx : S[i]? with
  | none =>
   rw[hx] at h
   injection h with h
   injection h with h1 h2
   subst h1
   exact ha
  | some x =>
   rw[hx] at h
   dsimp only at h
   split at h
   ·cases h
   ·exact bk9 p hf (aO0 (f:=f) p x (fun m=>hf x m (ha x (List.mem_of_getElem? hx))) 5 ha) h
end
end Go.Proofs.YtpmjpogcaglphaaGreatDoor.A
