/- A, part 28: what holds behind a run: rules, one an operation. -/
import Derived.IntWalk
import Derived.Test.YtpmjpogcaglphaaGreatDoorMLMCompiles2
set_option linter.unusedVariables false
set_option linter.unusedSimpArgs false
set_option linter.unnecessarySimpa false
namespace Go.Proofs.YtpmjpogcaglphaaGreatDoor.A
open Go
abbrev Ob := Tag→Option AObj
abbrev s8 := Out→v6→Ob→Nat→Prop
def wO {α : Type} (r : Option α) (K : α→Prop) : Prop := match r with | some x=>K x | none=>False
@[go_sem] theorem ds5 {α : Type} (x : α) (K : α → Prop) : wO (some x) K = K x := rfl
@[go_sem] theorem ds6 {α : Type} (K : α → Prop) : wO none K = False := rfl
section
variable (E : Env) (cr : v8) (k : Nat) (nz : Nat→Option (List (Nat × Nat)))
def WP (c : Code) (a : v6) (o : Ob) (nx : Nat) (Q : s8) : Prop :=
 match D5 E (fun _ _=>none) cr k nz none c a ⟨o,nx⟩ with
 | some (u,a',H')=>Q u a' H'.o H'.nx
 | none=>False
def aA9 (y : Code) (Q : s8) : s8 := fun u a o nx=>match u with
 | .normal=>WP E cr k nz y a o nx Q
 | u=>Q u a o nx
def I8 (id : Nat) (Q : s8) : s8 := fun u a o nx=>match u with
 | .exit id'=>if id' = id then Q .normal a o nx else Q (.exit id') a o nx
 | u=>Q u a o nx
def wIf (b : Bool) (x y : Code) (a : v6) (o : Ob) (nx : Nat) (Q : s8) : Prop := match b with | true=>WP E cr k nz x a o nx Q | false=>WP E cr k nz y a o nx Q
def wC (v : Option AV) (x y : Code) (a : v6) (o : Ob) (nx : Nat) (Q : s8) : Prop := match v with | some (.bool b)=>wIf E cr k nz b x y a o nx Q | _=>False
def WS (st : Nat) (ops : Array Oper) (l : List Oper) (a : v6) (o : Ob) (nx : Nat) (Q : s8) : Prop :=
 match steps E (fun _ _=>none) cr st ops l a ⟨o,nx⟩ with
 | some (a',H')=>Q .normal a' H'.o H'.nx
 | none=>False
def WF (st : Nat) (ops : Array Oper) (prs : List (Nat × Nat)) (i : Nat) (l : List Oper) (fs : List FP) (a : v6) (o : Ob) (nx : Nat) (Q : s8) : Prop :=
 match ah7 E (fun _ _=>none) cr st ops (N6 prs) i l a ⟨o,nx⟩ with
 | some (a',H',gs)=>Q6 (fs++gs) prs = true∧Q .normal a' H'.o H'.nx
 | none=>False
end
section
variable {E : Env} {cr : v8} {k : Nat} {nz : Nat→Option (List (Nat × Nat))}
@[go_sem] theorem aU6 (y : Code) (Q : s8) (a o nx) : aA9 E cr k nz y Q .normal a o nx = WP E cr k nz y a o nx Q := rfl
@[go_sem] theorem cP4 (y : Code) (Q : s8) (a o nx) : aA9 E cr k nz y Q .ret a o nx = Q .ret a o nx := rfl
@[go_sem] theorem cJ9 (y : Code) (Q : s8) (i a o nx) : aA9 E cr k nz y Q (.exit i) a o nx = Q (.exit i) a o nx := rfl
@[go_sem] theorem cK0 (y : Code) (Q : s8) (i a o nx) : aA9 E cr k nz y Q (.goto i) a o nx = Q (.goto i) a o nx := rfl
@[go_sem] theorem bY6 (id) (Q : s8) (a o nx) : I8 id Q .normal a o nx = Q .normal a o nx := rfl
@[go_sem] theorem cK1 (id) (Q : s8) (a o nx) : I8 id Q .ret a o nx = Q .ret a o nx := rfl
@[go_sem] theorem ct6 (id) (Q : s8) (l a o nx) : I8 id Q (.goto l) a o nx = Q (.goto l) a o nx := rfl
@[go_sem] theorem ct7 (id id') (Q : s8) (a o nx) : I8 id Q (.exit id') a o nx = if id' = id then Q .normal a o nx else Q (.exit id') a o nx := rfl
theorem U2 {c : Code} {a : v6} {o : Ob} {nx : Nat} {Q Q' : s8} (h : WP E cr k nz c a o nx Q) (hq : ∀ u a o nx,Q u a o nx→Q' u a o nx) : WP E cr k nz c a o nx Q' := by
 unfold WP at h ⊢
 split at h
 ·exact hq _ _ _ _ h
 ·exact h.elim
@[go_sem] theorem dj7 (x y a o nx) (Q : s8) : wIf E cr k nz true x y a o nx Q = WP E cr k nz x a o nx Q := rfl
@[go_sem] theorem bE4 (x y a o nx) (Q : s8) : wIf E cr k nz false x y a o nx Q = WP E cr k nz y a o nx Q := rfl
@[go_sem] theorem ds7 (b x y a o nx) (Q : s8) : wIf E cr k nz (!b) x y a o nx Q = wIf E cr k nz b y x a o nx Q := by cases b <;> rfl
@[go_sem] theorem cK2 (p : Prop) [Decidable p] (x y a o nx) (Q : s8) : wIf E cr k nz (decide p) x y a o nx Q = wIf E cr k nz (if p then true else false) x y a o nx Q := by
 by_cases h : p <;> simp[h]
@[go_sem] theorem ct8 (b x y a o nx) (Q : s8) : wC E cr k nz (some (.bool b)) x y a o nx Q = wIf E cr k nz b x y a o nx Q := rfl
@[go_sem] theorem ct9 (a o nx) (Q : s8) : WP E cr k nz .skip a o nx Q = Q .normal a o nx := rfl
@[go_sem] theorem dF3 (a o nx) (Q : s8) : WP E cr k nz .ret a o nx Q = Q .ret a o nx := rfl
@[go_sem] theorem ds8 (i a o nx) (Q : s8) : WP E cr k nz (.exit i) a o nx Q = Q (.exit i) a o nx := rfl
@[go_sem] theorem ds9 (i a o nx) (Q : s8) : WP E cr k nz (.goto i) a o nx Q = Q (.goto i) a o nx := rfl
@[go_sem] theorem dj8 (i a o nx) (Q : s8) : WP E cr k nz (.label i) a o nx Q = Q .normal a o nx := rfl
@[go_sem] theorem dF4 (x y : Code) (a o nx) (Q : s8) : WP E cr k nz (.seq x y) a o nx Q = WP E cr k nz x a o nx (aA9 E cr k nz y Q) := by
 unfold WP
 simp only[D5]
 cases D5 E (fun _ _=>none) cr k nz none x a ⟨o,nx⟩ with
 | none=>rfl
 | some p =>
  obtain ⟨u,a',H'⟩:=p
  cases u <;> rfl
@[go_sem] theorem dj9 (id : Nat) (c : Code) (a o nx) (Q : s8) : WP E cr k nz (.block id c) a o nx Q = WP E cr k nz c a o nx (I8 id Q) := by
 unfold WP
 simp only[D5]
 cases D5 E (fun _ _=>none) cr k nz none c a ⟨o,nx⟩ with
 | none=>rfl
 | some p =>
  obtain ⟨u,a',H'⟩:=p
  cases u with
  | exit id' =>
   dsimp only[I8]
   by_cases h : id' = id <;> simp[h]
  | _=>rfl
@[go_sem] theorem cu0 (c : Operand) (x y : Code) (a o nx) (Q : s8) : WP E cr k nz (.cond c x y) a o nx Q = wC E cr k nz (opd a c) x y a o nx Q := by
 unfold wC wIf WP
 simp only[D5]
 cases opd a c with
 | none=>rfl
 | some v=>cases v with
  | bool b=>cases b <;> rfl
  | _=>rfl
@[go_sem] theorem bE5 (id : Nat) (ops : List Oper) (a o nx) (Q : s8) : WP E cr k nz (.region id ⟨ops⟩ false) a o nx Q = WS E cr nx ⟨ops⟩ ops a o (nx + 1) Q := by
 unfold WP WS
 simp only[D5,aN1]
 cases steps E (fun _ _=>none) cr nx ⟨ops⟩ ops a ⟨o,nx+1⟩ <;> rfl
def bk4 (E : Env) (cr : v8) (prs : Option (List (Nat × Nat))) (ops : List Oper) (a : v6) (o : Ob) (nx : Nat) (Q : s8) : Prop := match prs with | none=>WS E cr nx ⟨ops⟩ ops a o (nx+1) Q | some l=>WF E cr nx ⟨ops⟩ l 0 ops [] a o (nx+1) Q
@[go_sem] theorem cu1 (ops a o nx) (Q : s8) : bk4 E cr none ops a o nx Q = WS E cr nx ⟨ops⟩ ops a o (nx + 1) Q := rfl
@[go_sem] theorem cu2 (l ops a o nx) (Q : s8) : bk4 E cr (some l) ops a o nx Q = WF E cr nx ⟨ops⟩ l 0 ops [] a o (nx + 1) Q := rfl
@[go_sem] theorem bE6 (id : Nat) (ops : List Oper) (a o nx) (Q : s8) : WP E cr k nz (.region id ⟨ops⟩ true) a o nx Q = bk4 E cr (nz id) ops a o nx Q := by
 unfold WP bk4 WS WF
 simp only[D5,aN1]
 cases nz id with
 | none =>
  dsimp only
  cases steps E (fun _ _=>none) cr nx ⟨ops⟩ ops a ⟨o,nx+1⟩ <;> rfl
 | some prs =>
  dsimp only
  cases ah7 E (fun _ _=>none) cr nx ⟨ops⟩ (N6 prs) 0 ops a ⟨o,nx+1⟩ with
  | none=>rfl
  | some p =>
   obtain ⟨a',H',gs⟩:=p
   dsimp only
   rw[List.nil_append]
   cases Q6 gs prs <;> simp
theorem aB0 {c : Code} {Q : s8} (I : Nat→v6→Ob→Nat→Prop) (step : ∀ m a o nx,I m a o nx→WP E cr k nz c a o nx (fun u a' o' nx'=>match u with | .normal=>∃ m',m' < m∧I m' a' o' nx' | u=>Q u a' o' nx')) :
  ∀ (n m : Nat),m < n→∀ a o nx,I m a o nx→match bA8 (D5 E (fun _ _=>none) cr k nz none c) n a ⟨o,nx⟩ with | some (u,a',H')=>Q u a' H'.o H'.nx | none=>False
 | 0,m,h,_,_,_,_=>by omega
 | n+1,m,h,a,o,nx,hI=>by
  have hs:=step m a o nx hI
  unfold WP at hs
  unfold bA8
  cases he : D5 E (fun _ _=>none) cr k nz none c a ⟨o,nx⟩ with
  | none=>rw[he] at hs;exact hs.elim
  | some p =>
   obtain ⟨u,a',H'⟩:=p
   rw[he] at hs
   cases u with
   | normal =>
    obtain ⟨m',h1,h2⟩:=hs
    exact aB0 I step n m' (by omega) a' H'.o H'.nx h2
   | _=>exact hs
def aU7 (I : Nat→v6→Ob→Nat→Prop) (m : Nat) (Q : s8) : s8 := fun u a' o' nx'=>match u with
 | .normal=>∃ m',m' < m∧I m' a' o' nx'
 | u=>Q u a' o' nx'
@[go_sem] theorem bY7 (I m) (Q : s8) (a o nx) : aU7 I m Q .normal a o nx = ∃ m', m' < m ∧ I m' a o nx := rfl
@[go_sem] theorem cK3 (I m) (Q : s8) (a o nx) : aU7 I m Q .ret a o nx = Q .ret a o nx := rfl
@[go_sem] theorem cu3 (I m) (Q : s8) (i a o nx) : aU7 I m Q (.exit i) a o nx = Q (.exit i) a o nx := rfl
@[go_sem] theorem cu4 (I m) (Q : s8) (i a o nx) : aU7 I m Q (.goto i) a o nx = Q (.goto i) a o nx := rfl
theorem o9 {c : Code} {Q : s8} (I : Nat→v6→Ob→Nat→Prop) (m : Nat) (hm : m < k) {a : v6} {o : Ob} {nx : Nat} (h0 : I m a o nx)
  (step : ∀ m a o nx,I m a o nx→WP E cr k nz c a o nx (aU7 I m Q)) : WP E cr k nz (.loop c) a o nx Q:=by
 unfold WP
 simp only[D5]
 refine aB0 I (fun m a o nx h=>U2 (step m a o nx h) ?_) k m hm a o nx h0
 intro u a o nx h
 cases u <;> exact h
@[go_sem] theorem cP5 (st ops a o nx) (Q : s8) : WS E cr st ops [] a o nx Q = Q .normal a o nx := rfl
theorem aN3 (st ops x l a o nx) (Q : s8) : WS E cr st ops (x :: l) a o nx Q = wO (aa1 E (fun _ _=>none) cr st ops x a ⟨o,nx⟩) (fun p=>WS E cr st ops l p.1 p.2.o p.2.nx Q) := by
 unfold WS wO
 simp only[steps]
 cases aa1 E (fun _ _=>none) cr st ops x a ⟨o,nx⟩ <;> rfl
theorem J9 (st ops d op ty p af l a o nx) (Q : s8) : WS E cr st ops (⟨d,op,ty,p,af,none⟩ :: l) a o nx Q = wO (o7 E (fun _ _=>none) cr st ⟨d,op,ty,p,af,none⟩ a ⟨o,nx⟩) (fun q=>WS E cr st ops l (S9 a d q.1) q.2.o q.2.nx Q) := by
 rw[aN3]
 unfold wO
 simp only[aa1,E1]
 cases o7 E (fun _ _=>none) cr st ⟨d,op,ty,p,af,none⟩ a ⟨o,nx⟩ <;> rfl
def cu5 (E : Env) (cr : v8) (b : Bool) (st : Nat) (ops : Array Oper) (x : Oper) (l : List Oper) (a : v6) (o : Ob) (nx : Nat) (Q : s8) : Prop := match b with | true=>WS E cr st ops (x :: l) a o nx Q | false=>WS E cr st ops l (S9 a x.dst noV) o nx Q
def wG (E : Env) (cr : v8) (y : Option (Option Bool)) (want : Bool) (st : Nat) (ops : Array Oper) (x : Oper) (l : List Oper) (a : v6) (o : Ob) (nx : Nat) (Q : s8) : Prop := match y with | none=>False | some none=>WS E cr st ops l (S9 a x.dst noV) o nx Q | some (some b)=>cu5 E cr (b == want) st ops x l a o nx Q
@[go_sem] theorem dt0 (w st ops d op ty p af g l a o nx) (Q : s8) : wG E cr (some none) w st ops ⟨d, op, ty, p, af, g⟩ l a o nx Q = WS E cr st ops l (S9 a d noV) o nx Q := rfl
@[go_sem] theorem dt1 (b st ops x l a o nx) (Q : s8) : wG E cr (some (some b)) true st ops x l a o nx Q = cu5 E cr b st ops x l a o nx Q := by cases b <;> rfl
@[go_sem] theorem dk0 (b st ops x l a o nx) (Q : s8) : wG E cr (some (some b)) false st ops x l a o nx Q = cu5 E cr (!b) st ops x l a o nx Q := by cases b <;> rfl
@[go_sem] theorem cP6 (st ops x l a o nx) (Q : s8) : cu5 E cr true st ops x l a o nx Q = WS E cr st ops (x :: l) a o nx Q := rfl
@[go_sem] theorem cK4 (st ops d op ty p af g l a o nx) (Q : s8) : cu5 E cr false st ops ⟨d, op, ty, p, af, g⟩ l a o nx Q = WS E cr st ops l (S9 a d noV) o nx Q := rfl
@[go_sem] theorem cu6 (p : Prop) [Decidable p] (st ops x l a o nx) (Q : s8) : cu5 E cr (decide p) st ops x l a o nx Q = cu5 E cr (if p then true else false) st ops x l a o nx Q := by
 by_cases h : p <;> simp[h]
@[go_sem] theorem dk1 (st ops d op ty p af j want l a o nx) (Q : s8) : WS E cr st ops (⟨d, op, ty, p, af, some (j, want)⟩ :: l) a o nx Q = wG E cr (I6 ops a j) want st ops ⟨d, op, ty, p, af, none⟩ l a o nx Q := by
 rw[aN3]
 unfold wG
 cases hy : I6 ops a j with
 | none=>unfold aa1 E1 wO;simp only[hy,Option.map_none]
 | some y =>
  cases y with
  | none=>unfold aa1 E1 wO;simp only[hy,Option.map_some];rfl
  | some b =>
   have h1 : aa1 E (fun _ _=>none) cr st ops ⟨d,op,ty,p,af,some (j,want)⟩ a ⟨o,nx⟩ = (match some (some b == some want) with | some true=>(o7 E (fun _ _=>none) cr st ⟨d,op,ty,p,af,none⟩ a ⟨o,nx⟩).map fun p=>(S9 a d p.1,p.2) | some false=>some (S9 a d noV,⟨o,nx⟩) | none=>none):=by
    unfold aa1 E1
    simp only[hy,Option.map_some]
    rfl
   have h2 : aa1 E (fun _ _=>none) cr st ops ⟨d,op,ty,p,af,none⟩ a ⟨o,nx⟩ = (o7 E (fun _ _=>none) cr st ⟨d,op,ty,p,af,none⟩ a ⟨o,nx⟩).map fun p=>(S9 a d p.1,p.2):=rfl
   cases b <;> cases want
   ·show wO _ _ = WS E cr st ops (_ :: l) a o nx Q
    rw[aN3,h2,h1]
    rfl
   ·rw[h1];rfl
   ·rw[h1];rfl
   ·show wO _ _ = WS E cr st ops (_ :: l) a o nx Q
    rw[aN3,h2,h1]
    rfl
def yv (v : AV) : Option (Option Bool) := match v with | .bool b=>some (some b) | .und=>none | .mp _=>none | _=>some none
@[go_sem] theorem dt2 (b : Bool) : yv (.bool b) = some (some b) := rfl
@[go_sem] theorem dF5 (l) : yv (.tup l) = some none := rfl
@[go_sem] theorem dF6 (k n) : yv (.int k n) = some none := rfl
def cu7 (o : Option Oper) (a : v6) : Option (Option Bool) := match o with | some ⟨some d,_,_,_,_,_⟩=>yv (a d) | _=>some none
@[go_sem] theorem cK5 (d op ty p af g a) : cu7 (some ⟨some d, op, ty, p, af, g⟩) a = yv (a d) := rfl
@[go_sem] theorem cK6 (ops : List Oper) (a : v6) (j : Nat) : I6 ⟨ops⟩ a j = cu7 ops[j]? a := by
 unfold I6 cu7
 rw[List.getElem?_toArray]
 cases ops[j]? with
 | none=>rfl
 | some x =>
  obtain ⟨d,op,ty,p,af,g⟩:=x
  cases d with
  | none=>rfl
  | some d=>rfl
def cu8 (E : Env) (cr : v8) (st : Nat) (ops : Array Oper) (prs : List (Nat × Nat)) (i : Nat) (l : List Oper) (fs : List FP) (Q : s8) : s8 := fun _ a o nx=>WF E cr st ops prs i l fs a o nx Q
@[go_sem] theorem dk2 (st ops prs i l fs) (Q : s8) (u a o nx) : cu8 E cr st ops prs i l fs Q u a o nx = WF E cr st ops prs i l fs a o nx Q := rfl
@[go_sem] theorem dt3 (st ops prs i x l fs a o nx) (Q : s8) : WF E cr st ops prs i (x :: l) fs a o nx Q = WS E cr st ops [x] a o nx (cu8 E cr st ops prs (i + 1) l (fs ++ [bif N6 prs i then E3 E st ops x a ⟨o, nx⟩ else FP.none_]) Q) := by
 unfold WF WS cu8 WF
 simp only[ah7,steps]
 cases aa1 E (fun _ _=>none) cr st ops x a ⟨o,nx⟩ with
 | none=>rfl
 | some p =>
  obtain ⟨a',H'⟩:=p
  dsimp only
  cases ah7 E (fun _ _=>none) cr st ops (N6 prs) (i+1) l a' H' with
  | none=>rfl
  | some q =>
   obtain ⟨a2,H2,gs⟩:=q
   dsimp only
   rw[List.append_assoc]
   cases N6 prs i <;> rfl
@[go_sem] theorem dF7 (st ops prs i fs a o nx) (Q : s8) : WF E cr st ops prs i [] fs a o nx Q = (Q6 fs prs = true ∧ Q .normal a o nx) := by
 unfold WF
 simp only[ah7,List.append_nil]
def kV (E : Env) (cr : v8) (st : Nat) (ops : Array Oper) (l : List Oper) (a : v6) (d : Nat) (o : Ob) (nx : Nat) (Q : s8) (v : AV) : Prop := WS E cr st ops l (put a d v) o nx Q
def kH (E : Env) (cr : v8) (st : Nat) (ops : Array Oper) (l : List Oper) (a : v6) (d : Option Nat) (Q : s8) (q : AV × AH) : Prop := WS E cr st ops l (S9 a d q.1) q.2.o q.2.nx Q
def kS (E : Env) (cr : v8) (st : Nat) (ops : Array Oper) (l : List Oper) (a : v6) (Q : s8) (H : AH) : Prop := WS E cr st ops l a H.o H.nx Q
def kA (E : Env) (cr : v8) (st : Nat) (ops : Array Oper) (l : List Oper) (a : v6) (d : Nat) (e : TypeId) (o : Ob) (nx : Nat) (Q : s8) (z : List AV) : Prop := WS E cr st ops l (put a d (.ptr (st,d) (st,d) 0)) (upd o (st,d) (.row ⟨e,1,(st,d),false,true,z⟩)) nx Q
def bd7 (cs : List AV) : Option (List AV) := if cs.all w0 = true then some cs else none
@[go_sem] theorem cK7 (cs) : bd7 cs = if cs.all w0 = true then some cs else none := rfl
@[go_sem] theorem dT8 (st ops l a d o nx) (Q : s8) (v) : kV E cr st ops l a d o nx Q v = WS E cr st ops l (put a d v) o nx Q := rfl
@[go_sem] theorem dt4 (st ops l a d) (Q : s8) (v o nx) : kH E cr st ops l a d Q (v, ⟨o, nx⟩) = WS E cr st ops l (S9 a d v) o nx Q := rfl
@[go_sem] theorem dT9 (st ops l a) (Q : s8) (o nx) : kS E cr st ops l a Q ⟨o, nx⟩ = WS E cr st ops l a o nx Q := rfl
@[go_sem] theorem dU0 (st ops l a d e o nx) (Q : s8) (z) : kA E cr st ops l a d e o nx Q z = WS E cr st ops l (put a d (.ptr (st, d) (st, d) 0)) (upd o (st, d) (.row ⟨e, 1, (st, d), false, true, z⟩)) nx Q := rfl
section
variable (st : Nat) (ops : Array Oper) (ty : TypeId) (p : String) (af : Array Edge) (l : List Oper) (a : v6) (o : Ob) (nx : Nat) (Q : s8)
@[go_sem] theorem dF8 (d x) : WS E cr st ops (⟨some d, .move x, ty, p, af, none⟩ :: l) a o nx Q = wO (opd a x) (kV E cr st ops l a d o nx Q) := by
 rw[J9];unfold wO;simp only[o7];cases opd a x <;> rfl
@[go_sem] theorem dk3 (d x) : WS E cr st ops (⟨some d, .assign x, ty, p, af, none⟩ :: l) a o nx Q = wO (opd a x) (kV E cr st ops l a d o nx Q) := by
 rw[J9];unfold wO;simp only[o7];cases opd a x <;> rfl
def aG4 (c x y : Option AV) : Option AV := match c with | some (.bool true)=>x | some (.bool false)=>y | _=>none
@[go_sem] theorem cK8 (x y) : aG4 (some (.bool true)) x y = x := rfl
@[go_sem] theorem cu9 (x y) : aG4 (some (.bool false)) x y = y := rfl
@[go_sem] theorem cp1 (b : Bool) (x : Bool) : aG4 (some (.bool b)) (some (.bool x)) (some (.bool false)) = some (.bool (b && x)) := by cases b <;> rfl
@[go_sem] theorem cv0 (b : Bool) (x : Bool) : aG4 (some (.bool b)) (some (.bool true)) (some (.bool x)) = some (.bool (b || x)) := by cases b <;> rfl
@[go_sem] theorem cK9 (p : Prop) [Decidable p] (y) : aG4 (some (.bool (decide p))) (some noV) y = aG4 (some (.bool (if p then true else false))) (some noV) y := by
 by_cases h : p <;> simp[h]
@[go_sem] theorem cL0 (p : Prop) [Decidable p] (y) : aG4 (some (.bool (decide p))) y (some noV) = aG4 (some (.bool (if p then true else false))) y (some noV) := by
 by_cases h : p <;> simp[h]
@[go_sem] theorem dt5 (p q : Prop) [Decidable p] [Decidable q] : (decide p && decide q) = decide (p ∧ q) := (Bool.decide_and p q).symm
@[go_sem] theorem dF9 (p q : Prop) [Decidable p] [Decidable q] : (decide p || decide q) = decide (p ∨ q) := (Bool.decide_or p q).symm
@[go_sem] theorem dt6 (p : Prop) [Decidable p] : (!decide p) = decide (¬ p) := decide_not.symm
@[go_sem] theorem dG0 (d c x y) : WS E cr st ops (⟨some d, .pick c x y, ty, p, af, none⟩ :: l) a o nx Q = wO (aG4 (opd a c) (opd a x) (opd a y)) (kV E cr st ops l a d o nx Q) := by
 rw[J9];unfold wO aG4;simp only[o7]
 cases opd a c with
 | none=>rfl
 | some v=>cases v with
  | bool b =>
   cases b with
   | true=>cases opd a x <;> rfl
   | false=>cases opd a y <;> rfl
  | _=>rfl
@[go_sem] theorem dt7 (d e) : WS E cr st ops (⟨some d, .alloc e, ty, p, af, none⟩ :: l) a o nx Q = wO (N3 E.P e) (kA E cr st ops l a d e o nx Q) := by
 rw[J9];unfold wO;simp only[o7];cases N3 E.P e <;> rfl
@[go_sem] theorem dU1 (d e x) : WS E cr st ops (⟨some d, .box e x, ty, p, af, none⟩ :: l) a o nx Q = wO ((opd a x).bind fun v => bd7 v.cells) (kA E cr st ops l a d e o nx Q) := by
 rw[J9];unfold wO;simp only[o7]
 cases opd a x with
 | none=>rfl
 | some v =>
  dsimp only[Option.bind_some,bd7]
  cases h : v.cells.all w0 <;> rfl
@[go_sem] theorem dt8 (d t ps) : WS E cr st ops (⟨some d, .build t ps, ty, p, af, none⟩ :: l) a o nx Q = wO ((F5 a ps.toList).bind (H4 E.P t)) (kV E cr st ops l a d o nx Q) := by
 rw[J9];unfold wO;simp only[o7]
 cases F5 a ps.toList with
 | none=>rfl
 | some v=>simp only[Option.bind_some];cases H4 E.P t v <;> rfl
@[go_sem] theorem cp2 (d t n ps) : WS E cr st ops (⟨some d, .buildSlice t n ps, ty, p, af, none⟩ :: l) a o nx Q = wO ((F5 a ps.toList).bind fun qs => s9 E.P (st, d) t n qs ⟨o, nx⟩) (kH E cr st ops l a (some d) Q) := by
 rw[J9];unfold wO;simp only[o7,ap0];cases (F5 a ps.toList).bind fun qs=>s9 E.P (st,d) t n qs ⟨o,nx⟩ <;> rfl
@[go_sem] theorem dG1 (d t x) : WS E cr st ops (⟨some d, .load t x, ty, p, af, none⟩ :: l) a o nx Q = wO ((opd a x).bind fun v => N8 E.P t v ⟨o, nx⟩) (kV E cr st ops l a d o nx Q) := by
 rw[J9];unfold wO;simp only[o7]
 cases opd a x with
 | none=>rfl
 | some v=>simp only[Option.bind_some];cases N8 E.P t v ⟨o,nx⟩ <;> rfl
@[go_sem] theorem dt9 (t x y) : WS E cr st ops (⟨none, .store t x y, ty, p, af, none⟩ :: l) a o nx Q = wO ((opd a x).bind fun pv => (opd a y).bind fun v => P2 E.P t pv v ⟨o, nx⟩) (kS E cr st ops l a Q) := by
 rw[J9];unfold wO;simp only[o7]
 cases opd a x with
 | none=>rfl
 | some v =>
  simp only[Option.bind_some]
  cases opd a y with
  | none=>rfl
  | some u=>simp only[Option.bind_some];cases P2 E.P t v u ⟨o,nx⟩ <;> rfl
def dk4 (v : AV) : Option AV := match v with | .ptr k g off=>some (.ptr k g off) | .fptr cs=>some (.fptr cs) | .fn (.func f) first captured=>some (.fn (.func f) first captured) | _=>none
@[go_sem] theorem dk5 (k g off) : dk4 (.ptr k g off) = some (.ptr k g off) := rfl
@[go_sem] theorem cP7 (cs) : dk4 (.fptr cs) = some (.fptr cs) := rfl
@[go_sem] theorem du0 (f x y) : dk4 (.fn (.func f) x y) = some (.fn (.func f) x y) := rfl
@[go_sem] theorem cL1 (d x) : WS E cr st ops (⟨some d, .nilCheck x, ty, p, af, none⟩ :: l) a o nx Q = wO ((opd a x).bind dk4) (kV E cr st ops l a d o nx Q) := by
 rw[J9];unfold wO;simp only[o7]
 cases opd a x with
 | none=>rfl
 | some v =>
  simp only[Option.bind_some]
  cases v with
  | fn f x y=>cases f <;> rfl
  | _=>rfl
@[go_sem] theorem du1 (d op t x y t') : WS E cr st ops (⟨some d, .binOp op t x y t', ty, p, af, none⟩ :: l) a o nx Q = wO ((opd a x).bind fun u => (opd a y).bind fun v => Q4 E.P op t u v) (kV E cr st ops l a d o nx Q) := by
 rw[J9];unfold wO;simp only[o7]
 cases opd a x with
 | none=>rfl
 | some v =>
  simp only[Option.bind_some]
  cases opd a y with
  | none=>rfl
  | some u=>simp only[Option.bind_some];cases Q4 E.P op t v u <;> rfl
@[go_sem] theorem dG2 (d op t x) : WS E cr st ops (⟨some d, .unOp op t x, ty, p, af, none⟩ :: l) a o nx Q = wO ((opd a x).bind (aUn op)) (kV E cr st ops l a d o nx Q) := by
 rw[J9];unfold wO;simp only[o7]
 cases opd a x with
 | none=>rfl
 | some v=>simp only[Option.bind_some];cases aUn op v <;> rfl
@[go_sem] theorem cP8 (d s t x) : WS E cr st ops (⟨some d, .convert s t x, ty, p, af, none⟩ :: l) a o nx Q = wO ((opd a x).bind fun u => m5 E.P (st, d) s t u ⟨o, nx⟩) (kH E cr st ops l a (some d) Q) := by
 rw[J9];unfold wO;simp only[o7,ap0];cases (opd a x).bind fun u=>m5 E.P (st,d) s t u ⟨o,nx⟩ <;> rfl
def du2 (fn : Fn) (f c : Option (List AV)) : Option AV := match f,c with | some f,some c=>some (.fn fn f c) | _,_=>none
@[go_sem] theorem cP9 (fn f c) : du2 fn (some f) (some c) = some (.fn fn f c) := rfl
@[go_sem] theorem cL2 (d fn f c) : WS E cr st ops (⟨some d, .makeFunc fn f c, ty, p, af, none⟩ :: l) a o nx Q = wO (du2 fn (ac0 a f.toList) (ac0 a c.toList)) (kV E cr st ops l a d o nx Q) := by
 rw[J9];unfold wO du2;simp only[o7]
 cases ac0 a f.toList with
 | none=>rfl
 | some v=>cases ac0 a c.toList <;> rfl
@[go_sem] theorem cv1 (d t x y) : WS E cr st ops (⟨some d, .makeSlice t x y, ty, p, af, none⟩ :: l) a o nx Q = wO ((ak3 a x).bind fun lv => (ak3 a y).bind fun cv => y7 E.P (st, d) t lv cv ⟨o, nx⟩) (kH E cr st ops l a (some d) Q) := by
 rw[J9];unfold wO;simp only[o7,ap0];cases (ak3 a x).bind fun lv=>(ak3 a y).bind fun cv=>y7 E.P (st,d) t lv cv ⟨o,nx⟩ <;> rfl
@[go_sem] theorem du3 (d t x lo hi) : WS E cr st ops (⟨some d, .slice t x lo hi none, ty, p, af, none⟩ :: l) a o nx Q = wO ((opd a x).bind fun v => (aR4 a lo).bind fun l => (aR4 a hi).bind fun h => ab9 E.P t v l h) (kV E cr st ops l a d o nx Q) := by
 rw[J9];unfold wO;simp only[o7]
 cases opd a x with
 | none=>rfl
 | some v =>
  simp only[Option.bind_some]
  cases aR4 a lo with
  | none=>rfl
  | some u =>
   simp only[Option.bind_some]
   cases aR4 a hi with
   | none=>rfl
   | some h=>simp only[Option.bind_some];cases ab9 E.P t v u h <;> rfl
def l7 (P : Program) (t : TypeId) (f : Nat) (v : AV) : Option AV := match v,K8 P t f with
 | .ptr k g off,some (o',ft)=>if (u4 P ft).getD 0 = 0 then none else some (.ptr k g (off+o'))
 | .fptr cs,some (o',ft)=>if (u4 P ft).getD 0 = 0 then none else some (.fptr (cs.drop o'))
 | _,_=>none
def aU8 (P : Program) (t : TypeId) (f : Nat) (v : AV) : Option AV := match v,K8 P t f with
 | .agg cs,some (o',ft)=>W8 P ft (cs.drop o')
 | _,_=>none
@[go_sem] theorem cv3 (d t x f) : WS E cr st ops (⟨some d, .fieldAddr t x f, ty, p, af, none⟩ :: l) a o nx Q = wO ((opd a x).bind (l7 E.P t f)) (kV E cr st ops l a d o nx Q) := by
 rw[J9];unfold wO;simp only[o7]
 cases opd a x with
 | none=>rfl
 | some v =>
  simp only[Option.bind_some,l7]
  cases v with
  | ptr k g off =>
   cases K8 E.P t f with
   | none=>rfl
   | some q =>
    dsimp only
    by_cases h : (u4 E.P q.2).getD 0 = 0 <;> simp[h,S9,kV]
  | fptr cs =>
   cases K8 E.P t f with
   | none=>rfl
   | some q =>
    dsimp only
    by_cases h : (u4 E.P q.2).getD 0 = 0 <;> simp[h,S9,kV]
  | _=>rfl
@[go_sem] theorem du4 (d t x f) : WS E cr st ops (⟨some d, .field t x f, ty, p, af, none⟩ :: l) a o nx Q = wO ((opd a x).bind (aU8 E.P t f)) (kV E cr st ops l a d o nx Q) := by
 rw[J9];unfold wO;simp only[o7]
 cases opd a x with
 | none=>rfl
 | some v =>
  simp only[Option.bind_some,aU8]
  cases v with
  | agg cs =>
   cases K8 E.P t f with
   | none=>rfl
   | some q=>dsimp only;cases W8 E.P q.2 (cs.drop q.1) <;> rfl
  | _=>rfl
@[go_sem] theorem cv4 (d t x i) : WS E cr st ops (⟨some d, .indexAddr t x i, ty, p, af, none⟩ :: l) a o nx Q = wO ((opd a x).bind fun v => (ak3 a i).bind fun j => n9 E.P t v j) (kV E cr st ops l a d o nx Q) := by
 rw[J9];unfold wO;simp only[o7]
 cases opd a x with
 | none=>rfl
 | some v =>
  simp only[Option.bind_some]
  cases ak3 a i with
  | none=>rfl
  | some u=>simp only[Option.bind_some];cases n9 E.P t v u <;> rfl
@[go_sem] theorem du5 (d t x i) : WS E cr st ops (⟨some d, .index t x i, ty, p, af, none⟩ :: l) a o nx Q = wO ((opd a x).bind fun v => (ak3 a i).bind fun j => Y4 E.P t v j) (kV E cr st ops l a d o nx Q) := by
 rw[J9];unfold wO;simp only[o7]
 cases opd a x with
 | none=>rfl
 | some v =>
  simp only[Option.bind_some]
  cases ak3 a i with
  | none=>rfl
  | some u=>simp only[Option.bind_some];cases Y4 E.P t v u <;> rfl
def aN4 (i : Nat) (v : AV) : Option AV := match v with | .tup vs=>vs[i]? | _=>none
@[go_sem] theorem cp3 (i vs) : aN4 i (.tup vs) = vs[i]? := rfl
@[go_sem] theorem cQ0 (d t i) : WS E cr st ops (⟨some d, .extract t i, ty, p, af, none⟩ :: l) a o nx Q = wO ((opd a t).bind (aN4 i)) (kV E cr st ops l a d o nx Q) := by
 rw[J9];unfold wO;simp only[o7]
 cases opd a t with
 | none=>rfl
 | some v =>
  simp only[Option.bind_some,aN4]
  cases v with
  | tup vs=>dsimp only;cases vs[i]? <;> rfl
  | _=>rfl
@[go_sem] theorem dU2 (d x t) : WS E cr st ops (⟨some d, .call ⟨.builtin .len, #[x], #[t]⟩, ty, p, af, none⟩ :: l) a o nx Q = wO ((opd a x).bind (R9 E.P o t)) (kV E cr st ops l a d o nx Q) := by
 rw[J9];unfold wO;simp only[o7,ac0]
 cases opd a x with
 | none=>rfl
 | some v =>
  simp only[Option.bind_some]
  rw[if_pos (by exact Nat.succ_pos _)]
  simp only[Array.getD_eq_getD_getElem?,List.getElem?_toArray,List.getElem?_cons_zero,Option.getD_some]
  cases R9 E.P o t v <;> rfl
@[go_sem] theorem dk6 (d x y t t') : WS E cr st ops (⟨some d, .call ⟨.builtin .append, #[x, y], #[t, t']⟩, ty, p, af, none⟩ :: l) a o nx Q = wO ((opd a x).bind fun u => (opd a y).bind fun v => B9 E.P (st, d) t t' u v ⟨o, nx⟩) (kH E cr st ops l a (some d) Q) := by
 rw[J9];unfold wO;simp only[o7,ac0,ap0]
 cases opd a x with
 | none=>rfl
 | some u =>
  simp only[Option.bind_some]
  cases opd a y with
  | none=>rfl
  | some v =>
   simp only[Option.bind_some]
   rw[if_pos (by rfl)]
   simp only[Array.getD_eq_getD_getElem?,List.getElem?_toArray,List.getElem?_cons_zero,List.getElem?_cons_succ,Option.getD_some]
   cases B9 E.P (st,d) t t' u v ⟨o,nx⟩ <;> rfl
@[go_sem] theorem dG3 (d x y t t') : WS E cr st ops (⟨d, .call ⟨.builtin .copy, #[x, y], #[t, t']⟩, ty, p, af, none⟩ :: l) a o nx Q = wO ((opd a x).bind fun u => (opd a y).bind fun v => aa0 E.P t u v ⟨o, nx⟩) (kH E cr st ops l a d Q) := by
 rw[J9];unfold wO;simp only[o7,ac0]
 cases opd a x with
 | none=>rfl
 | some u =>
  simp only[Option.bind_some]
  cases opd a y with
  | none=>rfl
  | some v =>
   simp only[Option.bind_some]
   rw[if_pos (by exact Nat.succ_pos _)]
   simp only[Array.getD_eq_getD_getElem?,List.getElem?_toArray,List.getElem?_cons_zero,Option.getD_some]
   cases aa0 E.P t u v ⟨o,nx⟩ <;> rfl
@[go_sem] theorem dU3 (d x y t t') : WS E cr st ops (⟨some d, .call ⟨.builtin .max, #[x, y], #[t, t']⟩, ty, p, af, none⟩ :: l) a o nx Q = wO ((opd a x).bind fun u => (opd a y).bind fun v => cO9 [u, v]) (kV E cr st ops l a d o nx Q) := by
 rw[J9];unfold wO;simp only[o7,ac0]
 cases opd a x with
 | none=>rfl
 | some u =>
  simp only[Option.bind_some]
  cases opd a y with
  | none=>rfl
  | some v=>simp only[Option.bind_some];cases cO9 [u,v] <;> rfl
@[go_sem] theorem dU4 (d x y t t') : WS E cr st ops (⟨some d, .call ⟨.builtin .min, #[x, y], #[t, t']⟩, ty, p, af, none⟩ :: l) a o nx Q = wO ((opd a x).bind fun u => (opd a y).bind fun v => cJ7 [u, v]) (kV E cr st ops l a d o nx Q) := by
 rw[J9];unfold wO;simp only[o7,ac0]
 cases opd a x with
 | none=>rfl
 | some u =>
  simp only[Option.bind_some]
  cases opd a y with
  | none=>rfl
  | some v=>simp only[Option.bind_some];cases cJ7 [u,v] <;> rfl
@[go_sem] theorem dG4 (d f xs ts) : WS E cr st ops (⟨d, .call ⟨.value f, xs, ts⟩, ty, p, af, none⟩ :: l) a o nx Q = wO ((ac0 a xs.toList).bind fun vs => (opd a f).bind fun fv => av1 E (fun _ _ => none) cr fv vs ⟨o, nx⟩) (kH E cr st ops l a d Q) := by
 rw[J9];unfold wO;simp only[o7]
 cases (ac0 a xs.toList).bind fun args=>(opd a f).bind fun fv=>av1 E (fun _ _=>none) cr fv args ⟨o,nx⟩ <;> rfl
end
end
@[go_sem] theorem cQ1 (args t) : A2 args t = (args[t]?).getD noV := rfl
@[go_sem] theorem cv5 (a t) : opd a (.tmp t) = some (a t) := rfl
@[go_sem] theorem dk7 (a f) : opd a (.func f) = some (.fn (.func f) [] []) := rfl
@[go_sem] theorem du6 (a k n) : opd a (.const (.int k n)) = some (.int k n) := rfl
@[go_sem] theorem dk8 (a b) : opd a (.const (.bool b)) = some (.bool b) := rfl
@[go_sem] theorem du7 (a) : opd a (.const (.slice none 0 0)) = some .nil := rfl
@[go_sem] theorem du8 (a s) : opd a (.const (.string s)) = some (.str s.data.toList) := rfl
@[go_sem] theorem dk9 (a) : opd a (.const (.pointer none)) = some .nilp := rfl
@[go_sem] theorem du9 (a) : opd a (.const (.map none)) = some .nilmp := rfl
@[go_sem] theorem dl0 (a) : ac0 a [] = some [] := rfl
def bt3 (x : Option AV) (xs : Option (List AV)) : Option (List AV) := match x,xs with | some v,some vs=>some (v :: vs) | _,_=>none
@[go_sem] theorem cL3 (v vs) : bt3 (some v) (some vs) = some (v :: vs) := rfl
@[go_sem] theorem cQ2 (a x xs) : ac0 a (x :: xs) = bt3 (opd a x) (ac0 a xs) := rfl
@[go_sem] theorem ai6 (a t v u) : put a t v u = if u = t then v else a u := rfl
@[go_sem] theorem bE7 (a t v) : S9 a (some t) v = put a t v := rfl
@[go_sem] theorem cQ3 (a v) : S9 a none v = a := rfl
@[go_sem] theorem b9 (o i j x k l) : upd o (i, j) x (k, l) = if l = j then (if k = i then some x else o (k, l)) else o (k, l) := by
 unfold upd
 by_cases h1 : l = j <;> by_cases h2 : k = i <;> simp[h1,h2]
@[go_sem] theorem dv0 (o nx t e s b cs) : (ah4 ⟨o, nx⟩ t e s b cs).o = upd o t (.row ⟨e, s, t, false, b, cs⟩) := rfl
@[go_sem] theorem dl1 (o nx t e s b cs) : (ah4 ⟨o, nx⟩ t e s b cs).nx = nx := rfl
@[go_sem] theorem dl2 (o nx t r) : (ax7 ⟨o, nx⟩ t r).o = upd o t (.row r) := rfl
@[go_sem] theorem cQ4 (o nx t r) : (ax7 ⟨o, nx⟩ t r).nx = nx := rfl
def V1 (x : Option AObj) (g : Tag) : Option Row := match x with | some (.row r)=>if r.gen = g then some r else none | _=>none
@[go_sem] theorem ai7 (o k g) : ah3 o k g = V1 (o k) g := rfl
@[go_sem] theorem aq2 (e s g ro pl cs) : V1 (some (.row ⟨e, s, g, ro, pl, cs⟩)) g = some ⟨e, s, g, ro, pl, cs⟩ := if_pos rfl
@[go_sem] theorem cQ5 (P t k g off o nx) : N8 P t (.ptr k g off) ⟨o, nx⟩ = (ah3 o k g).bind fun r => W8 P t (r.cs.drop off) := by
 unfold N8;dsimp only;cases ah3 o k g <;> rfl
@[go_sem] theorem cL4 (P t cs o nx) : N8 P t (.fptr cs) ⟨o, nx⟩ = W8 P t cs := rfl
def bE8 (k : Tag) (off n : Nat) (cs : List AV) (o : Ob) (nx : Nat) (r : Row) : Option AH :=
 if cs.length = n∧cs.all w0 = true∧r.ro = false∧off+n≤r.cs.length then some ⟨upd o k (.row { r with cs:=w9 r.cs off cs }),nx⟩ else none
@[go_sem] theorem cL5 (P t k g off x o nx) : P2 P t (.ptr k g off) x ⟨o, nx⟩ = (u4 P t).bind fun n => (ah3 o k g).bind (bE8 k off n x.cells o nx) := by
 unfold P2
 dsimp only
 cases u4 P t with
 | none=>rfl
 | some n =>
  dsimp only[Option.bind_some]
  cases ah3 o k g <;> rfl
def cQ6 (b : Option Bool) (n : Option Nat) (cs : List AV) : Option AV := match b,n with | some b,some n=>N4 b n cs | _,_=>none
@[go_sem] theorem cL6 (b n cs) : cQ6 (some b) (some n) cs = N4 b n cs := rfl
@[go_sem] theorem dl3 (P t cs) : W8 P t cs = cQ6 (O7 P t) (u4 P t) cs := rfl
@[go_sem] theorem cQ7 (n x cs) : N4 false n (x :: cs) = some x := rfl
@[go_sem] theorem cQ8 (n cs) : N4 true n cs = if n ≤ cs.length then some (.agg (cs.take n)) else none := rfl
@[go_sem] theorem dv1 (n) : asI (.int .i64 n) = some n := rfl
@[go_sem] theorem dv2 (a x) : ak3 a x = (opd a x).bind asI := rfl
@[go_sem] theorem cQ9 (a) : aR4 a none = some none := rfl
@[go_sem] theorem cR0 (a x) : aR4 a (some x) = (ak3 a x).map some := rfl
@[go_sem] theorem cR1 (cs) : AV.cells (.agg cs) = cs := rfl
@[go_sem] theorem cR2 (k n) : AV.cells (.int k n) = [.int k n] := rfl
@[go_sem] theorem cL7 (b) : AV.cells (.bool b) = [.bool b] := rfl
@[go_sem] theorem cR3 (b) : AV.cells (.str b) = [.str b] := rfl
@[go_sem] theorem cR4 : AV.cells .nil = [.nil] := rfl
@[go_sem] theorem dl4 (n cs) : AV.cells (.sl n cs) = [.sl n cs] := rfl
@[go_sem] theorem cR5 (k g off n) : AV.cells (.ref k g off n) = [.ref k g off n] := rfl
@[go_sem] theorem cR6 (k g off) : AV.cells (.ptr k g off) = [.ptr k g off] := rfl
@[go_sem] theorem cL8 (cs) : AV.cells (.fptr cs) = [.fptr cs] := rfl
@[go_sem] theorem dl5 (f x y) : AV.cells (.fn f x y) = [.fn f x y] := rfl
@[go_sem] theorem dl6 (k) : AV.cells (.mp k) = [.mp k] := rfl
@[go_sem] theorem cL9 : AV.cells .nilp = [.nilp] := rfl
@[go_sem] theorem cv6 : AV.cells .nilmp = [.nilmp] := rfl
@[go_sem] theorem dG5 (k n) : w0 (.int k n) = true := rfl
@[go_sem] theorem dv3 (b) : w0 (.bool b) = true := rfl
@[go_sem] theorem dG6 (b) : w0 (.str b) = true := rfl
@[go_sem] theorem dG7 : w0 .nil = true := rfl
@[go_sem] theorem dU5 (n cs) : w0 (.sl n cs) = true := rfl
@[go_sem] theorem dG8 (k g off n) : w0 (.ref k g off n) = true := rfl
@[go_sem] theorem dG9 (k g off) : w0 (.ptr k g off) = true := rfl
@[go_sem] theorem dv4 (cs) : w0 (.fptr cs) = true := rfl
@[go_sem] theorem dU6 (f x y) : w0 (.fn f x y) = true := rfl
@[go_sem] theorem dU7 (k) : w0 (.mp k) = true := rfl
@[go_sem] theorem dv5 : w0 .nilp = true := rfl
@[go_sem] theorem dl7 : w0 .nilmp = true := rfl
theorem B6 {o : Ob} {i i' j j' : Nat} {x : AObj} (h : i ≠ i') : upd o (i',j') x (i,j) = o (i,j) := G9 _ _ _ _ (fun e=>h (by injection e))
attribute [go_sem] beq_self_eq_true Nat.sub_zero Option.bind_some Option.bind_none Option.map_some Option.map_none Option.getD_some Option.getD_none List.toList_toArray List.all_cons List.all_nil Bool.and_self Bool.and_true Bool.true_and List.length_cons List.length_nil List.drop_zero List.drop_succ_cons List.drop_nil List.cons_append List.nil_append List.append_nil reduceIte Nat.add_zero Nat.zero_add Nat.mul_one Nat.one_mul Nat.zero_mul Nat.mul_zero ne_eq not_true_eq_false not_false_eq_true or_self or_false false_or and_self and_true true_and and_false false_and List.take_succ_cons List.take_zero List.getElem?_cons_zero List.getElem?_cons_succ eq_self if_true if_false Bool.not_true Bool.not_false Bool.not_not Bool.false_and Bool.and_false Bool.or_true Bool.true_or Bool.or_false Bool.false_or Bool.true_eq_false Bool.false_eq_true
end Go.Proofs.YtpmjpogcaglphaaGreatDoor.A
namespace Go.Proofs.YtpmjpogcaglphaaGreatDoor.A
open Go
abbrev ab7 : Int := 140737488355328
attribute [go_sem] ab7 Nat.min_self true_or or_true List.length_replicate Nat.le_refl Int.le_refl
@[go_sem] theorem dU8 : ((0 : Nat) : Int) = 0 := rfl
section
variable {P : Program} {t e : TypeId} {s n b : Nat} {z : List AV}
theorem Q7 (h : (K6 P t).bind (u4 P) = some s) (k g off n i) : n9 P t (.ref k g off n) i = if 0≤i∧i < (n : Int) then some (.ptr k g (off+i.toNat * s)) else none := by
 unfold n9;simp only[h]
theorem ad0 (h : (K6 P t).bind (u4 P) = some s) (n cs i) : n9 P t (.sl n cs) i = if 0≤i∧i < (n : Int) then some (.fptr (cs.drop (i.toNat * s))) else none := by
 unfold n9;simp only[h]
theorem bY8 (h : as7 P t = some (n,e)) (hs : u4 P e = some s) (cs i) : n9 P t (.fptr cs) i = if 0≤i∧i < (n : Int) then some (.fptr (cs.drop (i.toNat * s))) else none := by
 unfold n9;simp only[h,hs]
theorem bd8 (h : as7 P t = some (n,e)) (hs : u4 P e = some s) (k g off i) : n9 P t (.ptr k g off) i = if 0≤i∧i < (n : Int) then some (.ptr k g (off+i.toNat * s)) else none := by
 unfold n9;simp only[h,hs]
theorem bE9 (h : as7 P t = some (n,e)) (hs : u4 P e = some s) (cs i) : Y4 P t (.agg cs) i = if 0≤i∧i < (n : Int) then W8 P e (cs.drop (i.toNat * s)) else none := by
 unfold Y4;simp only[h,hs]
theorem cv7 (h : aG0 (P.underlying t) = true) (x i) : Y4 P t (.str x) i = if 0≤i then (x[i.toNat]?).map fun b=>.int .u8 b.toNat else none := by
 unfold Y4;simp only[h,if_true]
theorem B3 {f o' ft : Nat} (h : K8 P t f = some (o',ft)) (hs : u4 P ft = some (s+1)) (k g off) : l7 P t f (.ptr k g off) = some (.ptr k g (off+o')) := by
 unfold l7;simp[h,hs]
theorem U3 {f o' ft : Nat} (h : K8 P t f = some (o',ft)) (hs : u4 P ft = some (s+1)) (cs) : l7 P t f (.fptr cs) = some (.fptr (cs.drop o')) := by
 unfold l7;simp[h,hs]
theorem cR7 {f o' ft : Nat} (h : K8 P t f = some (o',ft)) (cs) : aU8 P t f (.agg cs) = W8 P ft (cs.drop o') := by
 unfold aU8;simp[h]
theorem bF0 (h : (K6 P t).bind (u4 P) = some (s+1)) (k g off n lo hi) : ab9 P t (.ref k g off n) lo hi = if 0≤lo.getD 0∧lo.getD 0≤hi.getD n∧hi.getD n≤n then some (.ref k g (off+(lo.getD 0).toNat * (s+1)) ((hi.getD n).toNat - (lo.getD 0).toNat)) else none := by
 unfold ab9;simp only[h,Nat.succ_pos,true_and]
theorem aJ6 (h : P.underlying t = some (.slice e)) (o) : R9 P o t .nil = some (.int .i64 0) := by unfold R9;simp only[h]
theorem aG5 (h : P.underlying t = some (.slice e)) (o n cs) : R9 P o t (.sl n cs) = some (.int .i64 n) := by unfold R9;simp only[h]
theorem ad1 (h : P.underlying t = some (.slice e)) (o k g off n) : R9 P o t (.ref k g off n) = some (.int .i64 n) := by unfold R9;simp only[h]
theorem cR8 (h : P.underlying t = some .string) (o x) : R9 P o t (.str x) = some (.int .i64 x.length) := by unfold R9;simp only[h]
theorem aN5 (h : K6 P t = some e) (hs : u4 P e = some (s+1)) (hb : as6 P e = some b) (hz : N3 P e = some z) (hl : z.length = s+1) (tg l c o nx) : y7 P tg t l c ⟨o,nx⟩ = if 0≤l∧l≤c∧c * b≤ab7∧c≤ab7 then some (.ref tg tg 0 l.toNat,⟨upd o tg (.row ⟨e,s+1,tg,false,true,rep z l.toNat⟩),nx⟩) else none := by
 unfold y7;simp only[h,hs,hb,hz,hl,Nat.succ_pos,and_true];rfl
theorem al4 (h : K6 P t = some e) (hs : u4 P e = some (s+1)) (hz : N3 P e = some z) (hl : z.length = s+1) (tg n ps o nx) : s9 P tg t n ps ⟨o,nx⟩ = if n * (s+1)≤16777216 then (C6 (fun i=>some (i * (s+1),s+1)) (rep z n) ps).map (fun cs=>(.ref tg tg 0 n,⟨upd o tg (.row ⟨e,s+1,tg,false,true,cs⟩),nx⟩)) else none := by
 unfold s9;simp only[h,hs,hz,hl,Nat.succ_pos,and_true]
 split
 ·cases C6 (fun i=>some (i * (s+1),s+1)) (rep z n) ps <;> rfl
 ·rfl
def aU9 (tg : Tag) (e sz by_ : Nat) (x : AV) (m : Nat) (new : List AV) (o : Ob) (nx : Nat) : Option (AV × AH) :=
 if new.length = m * sz∧new.all w0 = true then
  match x with
  | .nil=>if m = 0 then some (.nil,⟨o,nx⟩) else if (m * by_ : Int)≤ab7 then some (.ref tg tg 0 m,⟨upd o tg (.row ⟨e,sz,tg,false,true,new⟩),nx⟩) else none
  | .ref k g 0 n=>(V1 (o k) g).bind fun r=>if r.elem = e∧r.sz = sz∧r.ro = false∧r.plain = true∧n * sz≤r.cs.length∧((n+m) * by_ : Int)≤ab7 then some (.ref k tg 0 (n+m),⟨upd o k (.row { r with gen:=tg,cs:=r.cs.take (n * sz)++new }),nx⟩) else none
  | _=>none
 else none
theorem av3 {t' : TypeId} (h : K6 P t = some e) (hs : u4 P e = some (s+1)) (hb : as6 P e = some (b+1)) (hz : N3 P e = some z) (hl : z.length = s+1) (ht : (aG0 (P.underlying t') || (K6 P t').isSome) = true) (tg x y o nx) : B9 P tg t t' x y ⟨o,nx⟩ = (I5 o y).bind fun q=>aU9 tg e (s+1) (b+1) x q.1 q.2 o nx := by
 unfold B9
 simp only[h,hs,hb,hz]
 cases I5 o y with
 | none=>rfl
 | some q =>
  obtain ⟨m,new⟩:=q
  have h1 : ¬ (aG0 (P.underlying t') = false∧(K6 P t').isSome = false):=by
   rintro ⟨h1,h2⟩;rw[h1,h2] at ht;cases ht
  simp only[Option.bind_some,aU9,hl,ne_eq,not_true_eq_false,h1,false_or,Nat.succ_ne_zero]
  by_cases hc : new.length = m * (s+1)∧new.all w0 = true
  ·have c3 : ¬ (¬ new.length = m * (s+1) ∨ new.all w0 = false):=by
    rintro (h | h)
    ·exact h hc.1
    ·rw[hc.2] at h;cases h
   rw[if_neg c3,if_pos hc]
   cases x with
   | nil =>
    have : (m * (b+1)≤140737488355328) ↔ ((m : Int) * ((b+1 : Nat) : Int)≤ab7):=by unfold ab7;rw[← Int.natCast_mul];omega
    simp only[this]
    rfl
   | ref k g off n =>
    cases off with
    | zero =>
     have : ((n+m) * (b+1)≤140737488355328) ↔ (((n : Int)+(m : Int)) * ((b+1 : Nat) : Int)≤ab7):=by
      unfold ab7
      rw[← Int.natCast_add,← Int.natCast_mul]
      omega
     simp only[ai7,this]
     cases V1 (o k) g <;> rfl
    | succ off=>rfl
   | _=>rfl
  ·have c3 : (¬ new.length = m * (s+1) ∨ new.all w0 = false):=by
    by_cases c1 : new.length = m * (s+1)
    ·exact .inr (by rw[← Bool.not_eq_true];exact fun h=>hc ⟨c1,h⟩)
    ·exact .inl c1
   rw[if_pos c3,if_neg hc]
@[go_sem] theorem bY9 (tg e sz by_ m new o nx) : aU9 tg e sz by_ .nil m new o nx = if new.length = m * sz ∧ new.all w0 = true then (if m = 0 then some (.nil, ⟨o, nx⟩) else if (m * by_ : Int) ≤ ab7 then some (.ref tg tg 0 m, ⟨upd o tg (.row ⟨e, sz, tg, false, true, new⟩), nx⟩) else none) else none := rfl
def dv6 (tg : Tag) (e sz by_ : Nat) (k : Tag) (n m : Nat) (new : List AV) (o : Ob) (nx : Nat) (r : Row) : Option (AV × AH) :=
 if r.elem = e∧r.sz = sz∧r.ro = false∧r.plain = true∧n * sz≤r.cs.length∧((n+m) * by_ : Int)≤ab7 then some (.ref k tg 0 (n+m),⟨upd o k (.row { r with gen:=tg,cs:=r.cs.take (n * sz)++new }),nx⟩) else none
@[go_sem] theorem bZ0 (tg e sz by_ k n m new o nx g cs) : dv6 tg e sz by_ k n m new o nx ⟨e, sz, g, false, true, cs⟩ = if n * sz ≤ cs.length ∧ ((n + m) * by_ : Int) ≤ ab7 then some (.ref k tg 0 (n + m), ⟨upd o k (.row ⟨e, sz, tg, false, true, cs.take (n * sz) ++ new⟩), nx⟩) else none := by
 unfold dv6;simp
@[go_sem] theorem bZ1 (tg e sz by_ k g n m new o nx) : aU9 tg e sz by_ (.ref k g 0 n) m new o nx = if new.length = m * sz ∧ new.all w0 = true then (V1 (o k) g).bind (dv6 tg e sz by_ k n m new o nx) else none := rfl
def aV0 (k : Tag) (off n sz m : Nat) (new : List AV) (o : Ob) (nx : Nat) (r : Row) : Option (AV × AH) :=
 if (off = 0 ∨ 0 < n)∧r.sz = sz∧r.ro = false∧off+n * sz≤r.cs.length∧new.length = m * sz∧new.all w0 = true then some (.int .i64 (min m n : Nat),⟨upd o k (.row { r with cs:=w9 r.cs off (new.take (min m n * sz)) }),nx⟩) else none
@[go_sem] theorem cR9 (k off n sz m new o nx e g pl cs) : aV0 k off n sz m new o nx ⟨e, sz, g, false, pl, cs⟩ = if (off = 0 ∨ 0 < n) ∧ off + n * sz ≤ cs.length ∧ new.length = m * sz ∧ new.all w0 = true then some (.int .i64 (min m n : Nat), ⟨upd o k (.row ⟨e, sz, g, false, pl, w9 cs off (new.take (min m n * sz))⟩), nx⟩) else none := by
 unfold aV0;simp
theorem aV1 (h : (K6 P t).bind (u4 P) = some s) (k g off n x o nx) : aa0 P t (.ref k g off n) x ⟨o,nx⟩ = (I5 o x).bind fun q=>(V1 (o k) g).bind (aV0 k off n s q.1 q.2 o nx) := by
 unfold aa0
 simp only[h]
 cases I5 o x with
 | none=>rfl
 | some q =>
  simp only[Option.bind_some,ai7]
  cases V1 (o k) g <;> rfl
theorem aN6 (hz : N3 P t = some z) (hu : P.underlying t = some (.array n e)) (hs : u4 P e = some s) (xs) : H4 P t xs = (C6 (fun i=>some (i * s,s)) z xs).map .agg := by
 unfold H4;simp only[hz,hu,hs]
end
@[go_sem] theorem cv8 (a) : F5 a [] = some [] := rfl
def cS0 (i : Nat) (x : Option AV) (xs : Option (List (Nat × AV))) : Option (List (Nat × AV)) := match x,xs with | some v,some vs=>some ((i,v) :: vs) | _,_=>none
@[go_sem] theorem cM0 (i v vs) : cS0 i (some v) (some vs) = some ((i, v) :: vs) := rfl
@[go_sem] theorem cp4 (a i x ps) : F5 a ((i, x) :: ps) = cS0 i (opd a x) (F5 a ps) := rfl
@[go_sem] theorem cS1 (place cells) : C6 place cells [] = some cells := rfl
def cv9 (p : Option (Nat × Nat)) (cells vs : List AV) : Option (List AV) := match p with
 | none=>none
 | some (off,size)=>if vs.length = size∧off+size≤cells.length∧vs.all w0 = true then some (w9 cells off vs) else none
@[go_sem] theorem cM1 (place cells i v rest) : C6 place cells ((i, v) :: rest) = (cv9 (place i) cells v.cells).bind fun cs => C6 place cs rest := by
 simp only[C6,cv9]
 cases place i with
 | none=>rfl
 | some q=>obtain ⟨off,size⟩:=q;dsimp only;split <;> rfl
@[go_sem] theorem cM2 (off size cells vs) : cv9 (some (off, size)) cells vs = if vs.length = size ∧ off + size ≤ cells.length ∧ vs.all w0 = true then some (w9 cells off vs) else none := rfl
@[go_sem] theorem cM3 (k off n cs o nx e s g pl rs) : bE8 k off n cs o nx ⟨e, s, g, false, pl, rs⟩ = if cs.length = n ∧ cs.all w0 = true ∧ off + n ≤ rs.length then some ⟨upd o k (.row ⟨e, s, g, false, pl, w9 rs off cs⟩), nx⟩ else none := by
 unfold bE8;simp
@[go_sem] theorem cw0 (rs cs) : w9 rs 0 cs = cs ++ rs.drop cs.length := by simp [w9]
@[go_sem] theorem cw1 (x rs off cs) : w9 (x :: rs) (off + 1) cs = x :: w9 rs off cs := by
 unfold w9
 rw[show off+1+cs.length = (off+cs.length)+1 by omega]
 rfl
@[go_sem] theorem dl8 (z) : rep z 0 = [] := rfl
@[go_sem] theorem dl9 (z n) : rep z (n + 1) = z ++ rep z n := rfl
theorem aB1 (x n) : rep [x] n = List.replicate n x := by
 induction n with
 | zero=>rfl
 | succ n ih=>simp[rep,ih,List.replicate_succ]
theorem bZ2 (z n) : rep z n = (List.replicate n z).flatten := by
 induction n with
 | zero=>rfl
 | succ n ih=>simp[rep,ih,List.replicate_succ]
@[go_sem] theorem cS2 (o) : I5 o .nil = some (0, []) := rfl
@[go_sem] theorem dm0 (o n cs) : I5 o (.sl n cs) = some (n, cs) := rfl
@[go_sem] theorem cS3 (o x) : I5 o (.str x) = some (x.length, x.map fun b => .int .u8 b.toNat) := rfl
@[go_sem] theorem cS4 (o k g off n) : I5 o (.ref k g off n) = (V1 (o k) g).map fun r => (n, (r.cs.drop off).take (n * r.sz)) := by
 simp only[I5,E2,ai7];cases V1 (o k) g <;> rfl
@[go_sem] theorem dm1 (P t k x y) : Q4 P .add t (.int k x) (.int k y) = some (.int k (k.wrap (x + y))) := by simp [Q4, bb3]
@[go_sem] theorem dm2 (P t k x y) : Q4 P .sub t (.int k x) (.int k y) = some (.int k (k.wrap (x - y))) := by simp [Q4, bb3]
@[go_sem] theorem dm3 (P t k x y) : Q4 P .mul t (.int k x) (.int k y) = some (.int k (k.wrap (x * y))) := by simp [Q4, bb3]
@[go_sem] theorem dm4 (P t k x y) : Q4 P .quo t (.int k x) (.int k y) = if y = 0 then none else some (.int k (k.wrap (x.tdiv y))) := by simp [Q4, bb3]
@[go_sem] theorem dm5 (P t k x y) : Q4 P .rem t (.int k x) (.int k y) = if y = 0 then none else some (.int k (x.tmod y)) := by simp [Q4, bb3]
@[go_sem] theorem dm6 (P t k x y) : Q4 P .eql t (.int k x) (.int k y) = some (.bool (decide (x = y))) := by simp [Q4, bb3]; rfl
@[go_sem] theorem dm7 (P t k x y) : Q4 P .neq t (.int k x) (.int k y) = some (.bool (decide (¬ x = y))) := by simp [Q4, bb3, bne]; rfl
@[go_sem] theorem dm8 (P t k x y) : Q4 P .lss t (.int k x) (.int k y) = some (.bool (decide (x < y))) := by simp [Q4, bb3]
@[go_sem] theorem dm9 (P t k x y) : Q4 P .leq t (.int k x) (.int k y) = some (.bool (decide (x ≤ y))) := by simp [Q4, bb3]
@[go_sem] theorem dn0 (P t k x y) : Q4 P .gtr t (.int k x) (.int k y) = some (.bool (decide (y < x))) := by simp [Q4, bb3]
@[go_sem] theorem dn1 (P t k x y) : Q4 P .geq t (.int k x) (.int k y) = some (.bool (decide (y ≤ x))) := by simp [Q4, bb3]
@[go_sem] theorem dn2 (P t k k' x y) : Q4 P .shl t (.int k x) (.int k' y) = as8 .shl k x y := by simp [Q4]
@[go_sem] theorem dn3 (P t k k' x y) : Q4 P .shr t (.int k x) (.int k' y) = as8 .shr k x y := by simp [Q4]
@[go_sem] theorem dn4 (P t k x y) : Q4 P .and t (.int k x) (.int k y) = ax6 .and k x y := by simp [Q4, bb3]
@[go_sem] theorem dv7 (P t k x y) : Q4 P .or t (.int k x) (.int k y) = ax6 .or k x y := by simp [Q4, bb3]
theorem bZ3 {P : Program} {t : TypeId} (h : ax5 (P.underlying t) = true) (x y) : Q4 P .neq t (.bool x) (.bool y) = some (.bool (!(x == y))) := by simp[Q4,h]
@[go_sem] theorem cS5 (P t x y) : Q4 P .add t (.str x) (.str y) = if x.length + y.length ≤ 9223372036854775807 then some (.str (x ++ y)) else none := by simp [Q4, cJ6]
@[go_sem] theorem cS6 (P t x y) : Q4 P .eql t (.str x) (.str y) = some (.bool (x == y)) := by simp [Q4, cJ6]
@[go_sem] theorem cS7 (P t x y) : Q4 P .neq t (.str x) (.str y) = some (.bool (!(x == y))) := by simp [Q4, cJ6]
@[go_sem] theorem dv8 (x) : aUn .not (.bool x) = some (.bool (!x)) := rfl
@[go_sem] theorem dv9 (k n) : aUn .neg (.int k n) = some (.int k (k.wrap (0 - n))) := rfl
def cvI (s d : Option TypeDesc) (n : Int) (o : Ob) (nx : Nat) : Option (AV × AH) := match s,d with | some _,some (.int k)=>some (.int k (k.wrap n),⟨o,nx⟩) | _,_=>none
@[go_sem] theorem dn5 (s k n o nx) : cvI (some s) (some (.int k)) n o nx = some (.int k (k.wrap n), ⟨o, nx⟩) := rfl
theorem A7 {P : Program} {s d : TypeId} {k : IntKind} {td : TypeDesc} (hs : P.underlying s = some td) (hd : P.underlying d = some (.int k)) (tg k' n o nx) : m5 P tg s d (.int k' n) ⟨o,nx⟩ = some (.int k (k.wrap n),⟨o,nx⟩) := by
 unfold m5;simp only[hs,hd]
@[go_sem] theorem cM4 (k x y) : as8 .shr k x y = if y < 0 then none else some (.int k (x.fdiv (2 ^ (min y.toNat k.bits)))) := rfl
@[go_sem] theorem cM5 (k x y) : as8 .shl k x y = if y < 0 then none else some (.int k (k.wrap (x * 2 ^ (min y.toNat k.bits)))) := rfl
def dw0 (k : IntKind) (x y : Int) : Int := k.wrap (BitVec.ofInt k.bits x &&& BitVec.ofInt k.bits y).toNat
def orI (k : IntKind) (x y : Int) : Int := k.wrap (BitVec.ofInt k.bits x ||| BitVec.ofInt k.bits y).toNat
@[go_sem] theorem cS8 (k x y) : ax6 .and k x y = some (.int k (dw0 k x y)) := rfl
@[go_sem] theorem dn6 (k x y) : ax6 .or k x y = some (.int k (orI k x y)) := rfl
@[go_sem] theorem dn7 : IntKind.i64.bits = 64 := rfl
@[go_sem] theorem dn8 : IntKind.u64.bits = 64 := rfl
@[go_sem] theorem dw1 : IntKind.u8.bits = 8 := rfl
def cI (l : List Int) : List AV := l.map (AV.int .i64)
def cB (l : List Bool) : List AV := l.map AV.bool
abbrev slI (l : List Int) : AV := .sl l.length (cI l)
abbrev slB (l : List Bool) : AV := .sl l.length (cB l)
@[go_sem] theorem dH0 : cI [] = [] := rfl
@[go_sem] theorem dH1 : cB [] = [] := rfl
@[go_sem] theorem l9 (l) : (cI l).length = l.length := by simp [cI]
@[go_sem] theorem A3 (l) : (cB l).length = l.length := by simp [cB]
@[go_sem] theorem bd9 (l) : (cI l).all w0 = true := by simp [cI, List.all_eq_true, w0]
@[go_sem] theorem dU9 (l) : (cB l).all w0 = true := by simp [cB, List.all_eq_true, w0]
theorem P5 (x y) : cI (x++y) = cI x++cI y := by simp[cI]
theorem ah8 (x y) : cB (x++y) = cB x++cB y := by simp[cB]
theorem be0 (l n) : (cI l).take n = cI (l.take n) := by simp[cI,List.map_take]
theorem bF1 (l n) : (cI l).drop n = cI (l.drop n) := by simp[cI,List.map_drop]
theorem S6 {cs : List AV} {i s : Nat} (h : i < cs.length) : N4 false s (cs.drop i) = some (cs[i]'h) := by
 rw[List.drop_eq_getElem_cons h];rfl
theorem P6 {l : List Int} {i s : Nat} (h : i < l.length) : N4 false s ((cI l).drop i) = some (.int .i64 (l.getD i 0)) := by
 rw[S6 (by simpa [cI] using h)];simp[cI,List.getD,h]
theorem L3 {l : List Bool} {i s : Nat} (h : i < l.length) : N4 false s ((cB l).drop i) = some (.bool (l.getD i false)) := by
 rw[S6 (by simpa [cB] using h)];simp[cB,List.getD,h]
theorem Y9 (cs : List AV) (off : Nat) (x : AV) (h : off < cs.length) : w9 cs off [x] = cs.set off x := by
 unfold w9
 rw[List.set_eq_take_append_cons_drop,if_pos h];simp
theorem aJ7 (l : List Int) (i x) (h : i < l.length) : w9 (cI l) i [.int .i64 x] = cI (l.set i x) := by
 rw[Y9 _ _ _ (by simpa [cI] using h)];simp[cI,List.map_set]
theorem aB2 (l : List Bool) (i x) (h : i < l.length) : w9 (cB l) i [.bool x] = cB (l.set i x) := by
 rw[Y9 _ _ _ (by simpa [cB] using h)];simp[cB,List.map_set]
theorem ad2 (n) : rep [AV.int .i64 0] n = cI (List.replicate n 0) := by rw[aB1];simp[cI]
theorem J5 (n) : rep [AV.bool false] n = cB (List.replicate n false) := by rw[aB1];simp[cB]
@[go_sem] theorem al5 (o d k n) : view o d (.int k n) = .int k n := by cases d <;> rfl
@[go_sem] theorem bF2 (o d b) : view o d (.bool b) = .bool b := by cases d <;> rfl
@[go_sem] theorem dn9 (o d b) : view o d (.str b) = .str b := by cases d <;> rfl
@[go_sem] theorem do0 (o d) : view o d .nil = .sl 0 [] := by cases d <;> rfl
@[go_sem] theorem be1 (o d n cs) : view o d (.sl n cs) = .sl n cs := by cases d <;> rfl
@[go_sem] theorem cS9 (o d cs) : view o d (.fptr cs) = .fptr cs := by cases d <;> rfl
@[go_sem] theorem dw2 (o d k) : view o d (.mp k) = .und := by cases d <;> rfl
@[go_sem] theorem do1 (o d cs) : view o (d + 1) (.agg cs) = .agg (cs.map (view o d)) := rfl
@[go_sem] theorem do2 (o d cs) : view o (d + 1) (.tup cs) = .tup (cs.map (view o d)) := rfl
def cw2 (o : Ob) (d off n : Nat) (r : Option Row) : AV := match r with
 | some r=>if off+n * r.sz≤r.cs.length then .sl n (((r.cs.drop off).take (n * r.sz)).map (view o d)) else .und
 | none=>.und
@[go_sem] theorem bt4 (o d off n r) : cw2 o d off n (some r) = if off + n * r.sz ≤ r.cs.length then .sl n (((r.cs.drop off).take (n * r.sz)).map (view o d)) else .und := rfl
@[go_sem] theorem bZ4 (o d k g off n) : view o (d + 1) (.ref k g off n) = cw2 o d off n (V1 (o k) g) := by
 unfold cw2;simp only[view];rw[ai7];cases V1 (o k) g <;> rfl
def cw3 (o : Ob) (d off : Nat) (r : Option Row) : AV := match r with
 | some r=>.fptr ((r.cs.drop off).map (view o d))
 | none=>.und
@[go_sem] theorem cM6 (o d off r) : cw3 o d off (some r) = .fptr ((r.cs.drop off).map (view o d)) := rfl
@[go_sem] theorem do3 (o d k g off) : view o (d + 1) (.ptr k g off) = cw3 o d off (V1 (o k) g) := by
 unfold cw3;simp only[view];rw[ai7];cases V1 (o k) g <;> rfl
@[go_sem] theorem cT0 : p9 = 1012 := rfl
@[go_sem] theorem X5 (o d l) : (cI l).map (view o d) = cI l := by simp [cI, Function.comp_def, al5]
@[go_sem] theorem be2 (o d l) : (cB l).map (view o d) = cB l := by simp [cB, Function.comp_def, bF2]
attribute [go_sem] List.map_cons List.map_nil List.map_append List.length_append List.all_append List.flatMap_append flat flat.flats
def bZ5 (m : Mode) (E : Env) (cp : N5) (cr : v8) (g : FuncId) (as_ : List AV) (o : Ob) (nx : Nat) : Option (AV × AH) := match m with
 | .pure sc=>(cp g (as_.map (view o p9))).bind fun r=>G7 sc as_ r ⟨o,nx⟩
 | .ext sc=>(E.ext g (as_.map (view o p9))).bind fun r=>G7 sc as_ r ⟨o,nx⟩
 | .raw fz=>(cr g as_ ⟨o,nx⟩).map fun p=>t8 fz p.1 p.2
@[go_sem] theorem do4 (E cp cr g fs cs as_ o nx) : av1 E cp cr (.fn (.func g) fs cs) as_ ⟨o, nx⟩ = bZ5 (E.mode g) E cp cr g (fs ++ as_ ++ cs) o nx := by
 unfold av1 bZ5;rfl
@[go_sem] theorem cT1 (E cp cr g sc as_ o nx) : bZ5 (.ext sc) E cp cr g as_ o nx = (E.ext g (as_.map (view o p9))).bind fun r => G7 sc as_ r ⟨o, nx⟩ := rfl
@[go_sem] theorem cT2 (E cp cr g fz as_ o nx) : bZ5 (.raw fz) E cp cr g as_ o nx = (cr g as_ ⟨o, nx⟩).map fun p => t8 fz p.1 p.2 := rfl
@[go_sem] theorem cp5 (as_ r H) : G7 true as_ r H = if flat r then some (r, H) else none := rfl
@[go_sem] theorem bZ6 (as_ r o nx) : G7 false as_ r ⟨o, nx⟩ = some (r, ⟨I7 (as_.flatMap (d5 o p9)) o, nx⟩) := rfl
theorem N9 {ts : List Tag} {o : Ob} {t : Tag} (h : t ∉ ts) : I7 ts o t = o t := by
 unfold I7
 cases o t with
 | none=>rfl
 | some x =>
  cases x with
  | row r=>simp[h]
  | map es=>rfl
@[go_sem] theorem cM7 (o) : I7 [] o = o := by funext t; exact N9 (by simp)
@[go_sem] theorem al6 (o d k n) : d5 o d (.int k n) = [] := by cases d <;> rfl
@[go_sem] theorem bF3 (o d b) : d5 o d (.bool b) = [] := by cases d <;> rfl
@[go_sem] theorem do5 (o d b) : d5 o d (.str b) = [] := by cases d <;> rfl
@[go_sem] theorem do6 (o d) : d5 o d .nil = [] := by cases d <;> rfl
@[go_sem] theorem bF4 (o d n cs) : d5 o d (.sl n cs) = [] := by cases d <;> rfl
@[go_sem] theorem cT3 (o d cs) : d5 o d (.fptr cs) = [] := by cases d <;> rfl
@[go_sem] theorem dw3 (o d k) : d5 o d (.mp k) = [] := by cases d <;> rfl
@[go_sem] theorem do7 (o d cs) : d5 o (d + 1) (.agg cs) = cs.flatMap (d5 o d) := rfl
@[go_sem] theorem be3 (o d l) : (cI l).flatMap (d5 o d) = [] := by simp [cI, List.flatMap_eq_nil_iff, al6]
@[go_sem] theorem cw4 (o d l) : (cB l).flatMap (d5 o d) = [] := by
 induction l with
 | nil=>rfl
 | cons b l ih=>simpa [cB,bF3] using ih
def cw5 (o : Ob) (d : Nat) (k : Tag) (off n : Nat) (r : Option Row) : List Tag := match r with
 | some r=>k :: (((r.cs.drop off).take (n * r.sz)).flatMap (d5 o d))
 | none=>[k]
@[go_sem] theorem bt5 (o d k off n r) : cw5 o d k off n (some r) = k :: (((r.cs.drop off).take (n * r.sz)).flatMap (d5 o d)) := rfl
@[go_sem] theorem bZ7 (o d k g off n) : d5 o (d + 1) (.ref k g off n) = cw5 o d k off n (V1 (o k) g) := by
 unfold cw5;simp only[d5];rw[ai7];cases V1 (o k) g <;> rfl
def cw6 (o : Ob) (d : Nat) (k : Tag) (off : Nat) (r : Option Row) : List Tag := match r with
 | some r=>k :: ((r.cs.drop off).flatMap (d5 o d))
 | none=>[k]
@[go_sem] theorem cM8 (o d k off r) : cw6 o d k off (some r) = k :: ((r.cs.drop off).flatMap (d5 o d)) := rfl
@[go_sem] theorem do8 (o d k g off) : d5 o (d + 1) (.ptr k g off) = cw6 o d k off (V1 (o k) g) := by
 unfold cw6;simp only[d5];rw[ai7];cases V1 (o k) g <;> rfl
attribute [go_sem] List.flatMap_cons List.flatMap_nil
def aV2 (b : Bool) (x : Option AObj) : Option AObj := match b with | true=>x | false=>match x with | some (.row r)=>some (.row { r with ro := true }) | x=>x
@[go_sem] theorem cw7 (x) : aV2 true x = x := rfl
@[go_sem] theorem cM9 (e s g ro pl cs) : aV2 false (some (.row ⟨e, s, g, ro, pl, cs⟩)) = some (.row ⟨e, s, g, true, pl, cs⟩) := rfl
def nin (t : Tag) (l : List Tag) : Bool := !l.contains t
@[go_sem] theorem cN0 (ts o i j) : I7 ts o (i, j) = aV2 (nin (i, j) ts) (o (i, j)) := by
 unfold I7 aV2 nin
 cases o (i,j) with
 | none=>cases ts.contains (i,j) <;> rfl
 | some x =>
  cases x with
  | row r=>cases h : ts.contains (i,j) <;> simp[h]
  | map es=>cases ts.contains (i,j) <;> rfl
@[go_sem] theorem cN1 (i) : N6 [] i = false := rfl
@[go_sem] theorem cw8 (a b l i) : N6 ((a, b) :: l) i = (decide (a = i) || decide (b = i) || N6 l i) := by
 have h : ∀ x y,Nat.beq x y = decide (x = y):=fun x y=>by rw[Bool.eq_iff_iff];simp[Nat.beq_eq_true_eq]
 simp only[N6,h]
@[go_sem] theorem cN2 {α : Type} (x y : α) : (bif true then x else y) = x := rfl
@[go_sem] theorem cw9 {α : Type} (x y : α) : (bif false then x else y) = y := rfl
section
variable (E : Env) (st : Nat) (ops : Array Oper) (d : Option Tmp) (ty : TypeId) (p : String) (af : Array Edge) (a : v6) (H : AH)
def bZ8 (st : Nat) (d : Option Tmp) : List Tag := match d with | some d=>[(st,d)] | none=>[]
@[go_sem] theorem cT4 (st d) : bZ8 st (some d) = [(st, d)] := rfl
@[go_sem] theorem cT5 (st) : bZ8 st none = [] := rfl
@[go_sem] theorem dw4 (t x) : E3 E st ops ⟨d, .load t x, ty, p, af, none⟩ a H = ⟨Y3 (opd a x), [], false⟩ := rfl
@[go_sem] theorem do9 (t x y) : E3 E st ops ⟨d, .store t x y, ty, p, af, none⟩ a H = ⟨[], Y3 (opd a x), false⟩ := rfl
@[go_sem] theorem dp0 (t) : E3 E st ops ⟨d, .alloc t, ty, p, af, none⟩ a H = ⟨[], bZ8 st d, false⟩ := rfl
@[go_sem] theorem dH2 (t x) : E3 E st ops ⟨d, .box t x, ty, p, af, none⟩ a H = ⟨[], bZ8 st d, false⟩ := rfl
@[go_sem] theorem bZ9 (t n ps) : E3 E st ops ⟨d, .buildSlice t n ps, ty, p, af, none⟩ a H = ⟨[], bZ8 st d, false⟩ := rfl
@[go_sem] theorem cp6 (t x y) : E3 E st ops ⟨d, .makeSlice t x y, ty, p, af, none⟩ a H = ⟨[], bZ8 st d, false⟩ := rfl
@[go_sem] theorem cN3 (s t x) : E3 E st ops ⟨d, .convert s t x, ty, p, af, none⟩ a H = ⟨Y3 (opd a x), bZ8 st d, false⟩ := rfl
@[go_sem] theorem cT6 (x y ts) : E3 E st ops ⟨d, .call ⟨.builtin .append, #[x, y], ts⟩, ty, p, af, none⟩ a H = ⟨Y3 (opd a y), bZ8 st d ++ Y3 (opd a x), false⟩ := rfl
@[go_sem] theorem dw5 (x y ts) : E3 E st ops ⟨d, .call ⟨.builtin .copy, #[x, y], ts⟩, ty, p, af, none⟩ a H = ⟨Y3 (opd a y), Y3 (opd a x), false⟩ := rfl
@[go_sem] theorem dH3 (x ts) : E3 E st ops ⟨d, .call ⟨.builtin .len, #[x], ts⟩, ty, p, af, none⟩ a H = ⟨Y3 (opd a x) ++ [], [], false⟩ := rfl
def ftF (E : Env) (fv : Option AV) (vs : List AV) (o : Ob) (nx : Nat) : FP := match fv with
 | some (.fn (.func g) first captured) =>
  let ts:=(first++vs++captured).flatMap (d5 o p9)
  match E.mode g with
  | .pure true=>⟨ts,[],false⟩
  | .ext true=>⟨ts,[],false⟩
  | .pure false=>⟨ts,ts,false⟩
  | .ext false=>⟨ts,ts,false⟩
  | .raw z=>⟨[],bW5 z g nx,true⟩
 | _=>⟨[],[],true⟩
@[go_sem] theorem dw6 (f xs ts) : E3 E st ops ⟨d, .call ⟨.value f, xs, ts⟩, ty, p, af, none⟩ a H = ftF E (opd a f) (xs.toList.filterMap (opd a)) H.o H.nx := rfl
def ftM (m : Mode) (ts : List Tag) (g : FuncId) (nx : Nat) : FP := match m with
 | .pure true=>⟨ts,[],false⟩
 | .ext true=>⟨ts,[],false⟩
 | .pure false=>⟨ts,ts,false⟩
 | .ext false=>⟨ts,ts,false⟩
 | .raw z=>⟨[],bW5 z g nx,true⟩
@[go_sem] theorem dH4 (E : Env) (g f c vs o nx) : ftF E (some (.fn (.func g) f c)) vs o nx = ftM (E.mode g) ((f ++ vs ++ c).flatMap (d5 o p9)) g nx := rfl
@[go_sem] theorem dp1 (ts g nx) : ftM (.ext true) ts g nx = ⟨ts, [], false⟩ := rfl
@[go_sem] theorem cT7 (ts g nx) : ftM (.ext false) ts g nx = ⟨ts, ts, false⟩ := rfl
@[go_sem] theorem dw7 (z ts g nx) : ftM (.raw z) ts g nx = ⟨[], bW5 z g nx, true⟩ := rfl
@[go_sem] theorem cN4 (g n) : bW5 false g n = if aS0 g = true then [(n, 0)] else [] := by
 unfold bW5;simp
attribute [go_sem] aS0
@[go_sem] theorem cT8 (g n) : bW5 true g n = [] := rfl
@[go_sem] theorem dp2 {i n : Nat} (j m) (h : i < n) : below (i, j) (n, m) = true := by unfold below; exact decide_eq_true h
end
@[go_sem] theorem cT9 (v) : Y3 (some v) = D8 v := rfl
attribute [go_sem] D8 FP.none_ List.filterMap_cons List.filterMap_nil
@[go_sem] theorem dw8 (t) : nin t [] = true := rfl
@[go_sem] theorem dp3 (i j k m l) : nin (i, j) ((k, m) :: l) = if j = m then (if i = k then false else nin (i, j) l) else nin (i, j) l := by
 unfold nin
 by_cases h1 : j = m <;> by_cases h2 : i = k <;> simp[h1,h2]
@[go_sem] theorem dw9 (r w r' w') : aR5 ⟨r, w, false⟩ ⟨r', w', false⟩ = (w.all (fun t => nin t r' && nin t w') && w'.all (fun t => nin t r)) := rfl
@[go_sem] theorem cU0 (r w r' w') : aR5 ⟨r, w, true⟩ ⟨r', w', false⟩ = (w'.isEmpty && r'.all fun t => w.any (below t)) := rfl
@[go_sem] theorem cU1 (r w r' w') : aR5 ⟨r, w, false⟩ ⟨r', w', true⟩ = (w.isEmpty && r.all fun t => w'.any (below t)) := rfl
def cU2 (x y : Option FP) : Bool := match x,y with | some x,some y=>aR5 x y | _,_=>false
@[go_sem] theorem cN5 (x y) : cU2 (some x) (some y) = aR5 x y := rfl
@[go_sem] theorem cU3 (fs) : Q6 fs [] = true := rfl
@[go_sem] theorem cN6 (fs i j l) : Q6 fs ((i, j) :: l) = (cU2 fs[i]? fs[j]? && Q6 fs l) := rfl
attribute [go_sem] List.isEmpty_nil List.isEmpty_cons List.any_cons List.any_nil List.all_cons List.all_nil Bool.or_true Bool.or_false Bool.true_or Bool.and_true Bool.true_and
def aN7 (x : Option AObj) : Option (List (AV × AV)) := match x with | some (.map es)=>some es | _=>none
@[go_sem] theorem cN7 (es) : aN7 (some (.map es)) = some es := rfl
def lkV (ok : Bool) (z : AV) (r : Option AV) : AV := match ok,r with
 | true,some v=>.tup [v,.bool true]
 | true,none=>.tup [z,.bool false]
 | false,some v=>v
 | false,none=>z
@[go_sem] theorem dH5 (z v) : lkV true z (some v) = .tup [v, .bool true] := rfl
@[go_sem] theorem dH6 (z) : lkV true z none = .tup [z, .bool false] := rfl
@[go_sem] theorem dH7 (z v) : lkV false z (some v) = v := rfl
@[go_sem] theorem dH8 (z) : lkV false z none = z := rfl
theorem cU4 {P : Program} {t kt et : TypeId} {z k : AV} (h : P.underlying t = some (.map kt et)) (hz : bb6 P et = some z) (hk : bb5 P kt k = true) (m ok o nx) : Q5 P t (.mp m) k ok ⟨o,nx⟩ = (aN7 (o m)).bind fun es=>(T5 k es).map (lkV ok z) := by
 unfold Q5 aN7
 simp only[h,hz,hk,if_true,aM3]
 cases o m with
 | none=>rfl
 | some x =>
  cases x with
  | row r=>rfl
  | map es =>
   dsimp only[Option.bind_some]
   cases T5 k es with
   | none=>rfl
   | some r=>cases r <;> cases ok <;> rfl
def ca0 (tg : Tag) (k v : AV) (o : Ob) (nx : Nat) (es : List (AV × AV)) : Option AH := (T5 k es).map fun _=>⟨upd o tg (.map (aR9 k v es)),nx⟩
theorem cU5 {P : Program} {t kt et : TypeId} {k : AV} (h : P.underlying t = some (.map kt et)) (hk : bb5 P kt k = true) (m v o nx) : u7 P t (.mp m) k v ⟨o,nx⟩ = (aN7 (o m)).bind (ca0 m k v o nx) := by
 unfold u7 aN7 ca0
 simp only[h,hk,if_true]
 cases o m with
 | none=>rfl
 | some x =>
  cases x with
  | row r=>rfl
  | map es =>
   dsimp only[Option.bind_some]
   cases T5 k es <;> rfl
theorem be4 {k : AV} {es : List (AV × AV)} {r : Option AV} (h : T5 k es = some r) (tg v o nx) : ca0 tg k v o nx es = some ⟨upd o tg (.map (aR9 k v es)),nx⟩ := by unfold ca0;rw[h];rfl
@[go_sem] theorem cN8 (b es) : aV2 b (some (.map es)) = some (.map es) := by cases b <;> rfl
section
variable {E : Env} {cr : v8} (st : Nat) (ops : Array Oper) (ty : TypeId) (p : String) (af : Array Edge) (l : List Oper) (a : v6) (o : Ob) (nx : Nat) (Q : s8) (H : AH)
@[go_sem] theorem cU6 (d t) : WS E cr st ops (⟨some d, .makeMap t none, ty, p, af, none⟩ :: l) a o nx Q = WS E cr st ops l (put a d (.mp (st, d))) (upd o (st, d) (.map [])) nx Q := by
 rw[J9];rfl
@[go_sem] theorem dp4 (d t m k ok) : WS E cr st ops (⟨some d, .lookup t m k ok, ty, p, af, none⟩ :: l) a o nx Q = wO ((opd a m).bind fun mv => (opd a k).bind fun kv => Q5 E.P t mv kv ok ⟨o, nx⟩) (kV E cr st ops l a d o nx Q) := by
 rw[J9];unfold wO;simp only[o7]
 cases opd a m with
 | none=>rfl
 | some v =>
  simp only[Option.bind_some]
  cases opd a k with
  | none=>rfl
  | some u=>simp only[Option.bind_some];cases Q5 E.P t v u ok ⟨o,nx⟩ <;> rfl
@[go_sem] theorem cx0 (t m k x) : WS E cr st ops (⟨none, .mapUpdate t m k x, ty, p, af, none⟩ :: l) a o nx Q = wO ((opd a m).bind fun mv => (opd a k).bind fun kv => (opd a x).bind fun vv => u7 E.P t mv kv vv ⟨o, nx⟩) (kS E cr st ops l a Q) := by
 rw[J9];unfold wO;simp only[o7]
 cases opd a m with
 | none=>rfl
 | some v =>
  simp only[Option.bind_some]
  cases opd a k with
  | none=>rfl
  | some u =>
   simp only[Option.bind_some]
   cases opd a x with
   | none=>rfl
   | some y=>simp only[Option.bind_some];cases u7 E.P t v u y ⟨o,nx⟩ <;> rfl
@[go_sem] theorem cN9 (d t) : E3 E st ops ⟨d, .makeMap t none, ty, p, af, none⟩ a H = ⟨[], bZ8 st d, false⟩ := rfl
@[go_sem] theorem cU7 (d t m k ok) : E3 E st ops ⟨d, .lookup t m k ok, ty, p, af, none⟩ a H = ⟨Y3 (opd a m), [], false⟩ := rfl
@[go_sem] theorem cp7 (d t m k x) : E3 E st ops ⟨d, .mapUpdate t m k x, ty, p, af, none⟩ a H = ⟨[], Y3 (opd a m), false⟩ := rfl
end
end Go.Proofs.YtpmjpogcaglphaaGreatDoor.A
