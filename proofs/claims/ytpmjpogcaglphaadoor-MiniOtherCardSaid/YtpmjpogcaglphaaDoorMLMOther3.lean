/- A, part 28: what holds behind a run: rules, one an operation. -/
import Derived.IntWalk
import Derived.Test.YtpmjpogcaglphaaDoorMLMOther2
set_option linter.unusedVariables false
set_option linter.unusedSimpArgs false
set_option linter.unnecessarySimpa false
namespace Go.Proofs.YtpmjpogcaglphaaDoor.A
open Go
abbrev Ob := Tag → Option AObj
abbrev m4 := Out → n9 → Ob → Nat → Prop
def wO {α : Type} (r : Option α) (K : α → Prop) : Prop := match r with | some x => K x | none => False
@[go_sem] theorem cK0 {α : Type} (x : α) (K : α → Prop) : wO (some x) K = K x := rfl
@[go_sem] theorem cK1 {α : Type} (K : α → Prop) : wO none K = False := rfl
section
variable (E : Env) (cr : q7) (k : Nat) (nz : Nat → Option (List (Nat × Nat)))
def WP (c : Code) (a : n9) (o : Ob) (nx : Nat) (Q : m4) : Prop :=
 match x7 E (fun _ _ => none) cr k nz none c a ⟨o, nx⟩ with
 | some (u, a', H') => Q u a' H'.o H'.nx
 | none => False
def ax2 (y : Code) (Q : m4) : m4 := fun u a o nx => match u with
 | .normal => WP E cr k nz y a o nx Q
 | u => Q u a o nx
def L0 (id : Nat) (Q : m4) : m4 := fun u a o nx => match u with
 | .exit id' => if id' = id then Q .normal a o nx else Q (.exit id') a o nx
 | u => Q u a o nx
def wIf (b : Bool) (x y : Code) (a : n9) (o : Ob) (nx : Nat) (Q : m4) : Prop := match b with | true => WP E cr k nz x a o nx Q | false => WP E cr k nz y a o nx Q
def wC (v : Option AV) (x y : Code) (a : n9) (o : Ob) (nx : Nat) (Q : m4) : Prop := match v with | some (.bool b) => wIf E cr k nz b x y a o nx Q | _ => False
def WS (st : Nat) (ops : Array Oper) (l : List Oper) (a : n9) (o : Ob) (nx : Nat) (Q : m4) : Prop :=
 match steps E (fun _ _ => none) cr st ops l a ⟨o, nx⟩ with
 | some (a', H') => Q .normal a' H'.o H'.nx
 | none => False
def WF (st : Nat) (ops : Array Oper) (prs : List (Nat × Nat)) (i : Nat) (l : List Oper) (fs : List FP) (a : n9) (o : Ob) (nx : Nat) (Q : m4) : Prop :=
 match W7 E (fun _ _ => none) cr st ops (F8 prs) i l a ⟨o, nx⟩ with
 | some (a', H', gs) => I3 (fs ++ gs) prs = true ∧ Q .normal a' H'.o H'.nx
 | none => False
end
section
variable {E : Env} {cr : q7} {k : Nat} {nz : Nat → Option (List (Nat × Nat))}
@[go_sem] theorem aD6 (y : Code) (Q : m4) (a o nx) : ax2 E cr k nz y Q .normal a o nx = WP E cr k nz y a o nx Q := rfl
@[go_sem] theorem ck2 (y : Code) (Q : m4) (a o nx) : ax2 E cr k nz y Q .ret a o nx = Q .ret a o nx := rfl
@[go_sem] theorem ce7 (y : Code) (Q : m4) (i a o nx) : ax2 E cr k nz y Q (.exit i) a o nx = Q (.exit i) a o nx := rfl
@[go_sem] theorem ce8 (y : Code) (Q : m4) (i a o nx) : ax2 E cr k nz y Q (.goto i) a o nx = Q (.goto i) a o nx := rfl
@[go_sem] theorem bx8 (id) (Q : m4) (a o nx) : L0 id Q .normal a o nx = Q .normal a o nx := rfl
@[go_sem] theorem ce9 (id) (Q : m4) (a o nx) : L0 id Q .ret a o nx = Q .ret a o nx := rfl
@[go_sem] theorem bQ1 (id) (Q : m4) (l a o nx) : L0 id Q (.goto l) a o nx = Q (.goto l) a o nx := rfl
@[go_sem] theorem bQ2 (id id') (Q : m4) (a o nx) : L0 id Q (.exit id') a o nx = if id' = id then Q .normal a o nx else Q (.exit id') a o nx := rfl
theorem L3 {c : Code} {a : n9} {o : Ob} {nx : Nat} {Q Q' : m4} (h : WP E cr k nz c a o nx Q) (hq : ∀ u a o nx, Q u a o nx → Q' u a o nx) : WP E cr k nz c a o nx Q' := by
 unfold WP at h ⊢
 split at h
 ·exact hq _ _ _ _ h
 ·exact h.elim
@[go_sem] theorem cC3 (x y a o nx) (Q : m4) : wIf E cr k nz true x y a o nx Q = WP E cr k nz x a o nx Q := rfl
@[go_sem] theorem bh0 (x y a o nx) (Q : m4) : wIf E cr k nz false x y a o nx Q = WP E cr k nz y a o nx Q := rfl
@[go_sem] theorem cK2 (b x y a o nx) (Q : m4) : wIf E cr k nz (!b) x y a o nx Q = wIf E cr k nz b y x a o nx Q := by cases b <;> rfl
@[go_sem] theorem cf0 (p : Prop) [Decidable p] (x y a o nx) (Q : m4) : wIf E cr k nz (decide p) x y a o nx Q = wIf E cr k nz (if p then true else false) x y a o nx Q := by
 by_cases h : p <;> simp [h]
@[go_sem] theorem bQ3 (b x y a o nx) (Q : m4) : wC E cr k nz (some (.bool b)) x y a o nx Q = wIf E cr k nz b x y a o nx Q := rfl
@[go_sem] theorem bQ4 (a o nx) (Q : m4) : WP E cr k nz .skip a o nx Q = Q .normal a o nx := rfl
@[go_sem] theorem cX0 (a o nx) (Q : m4) : WP E cr k nz .ret a o nx Q = Q .ret a o nx := rfl
@[go_sem] theorem cK3 (i a o nx) (Q : m4) : WP E cr k nz (.exit i) a o nx Q = Q (.exit i) a o nx := rfl
@[go_sem] theorem cK4 (i a o nx) (Q : m4) : WP E cr k nz (.goto i) a o nx Q = Q (.goto i) a o nx := rfl
@[go_sem] theorem cC4 (i a o nx) (Q : m4) : WP E cr k nz (.label i) a o nx Q = Q .normal a o nx := rfl
@[go_sem] theorem cX1 (x y : Code) (a o nx) (Q : m4) : WP E cr k nz (.seq x y) a o nx Q = WP E cr k nz x a o nx (ax2 E cr k nz y Q) := by
 unfold WP
 simp only [x7]
 cases x7 E (fun _ _ => none) cr k nz none x a ⟨o, nx⟩ with
 | none => rfl
 | some p =>
  obtain ⟨u, a', H'⟩ := p
  cases u <;> rfl
@[go_sem] theorem cC5 (id : Nat) (c : Code) (a o nx) (Q : m4) : WP E cr k nz (.block id c) a o nx Q = WP E cr k nz c a o nx (L0 id Q) := by
 unfold WP
 simp only [x7]
 cases x7 E (fun _ _ => none) cr k nz none c a ⟨o, nx⟩ with
 | none => rfl
 | some p =>
  obtain ⟨u, a', H'⟩ := p
  cases u with
  | exit id' =>
   dsimp only [L0]
   by_cases h : id' = id <;> simp [h]
  | _ => rfl
@[go_sem] theorem bQ5 (c : Operand) (x y : Code) (a o nx) (Q : m4) : WP E cr k nz (.cond c x y) a o nx Q = wC E cr k nz (opd a c) x y a o nx Q := by
 unfold wC wIf WP
 simp only [x7]
 cases opd a c with
 | none => rfl
 | some v => cases v with
  | bool b => cases b <;> rfl
  | _ => rfl
@[go_sem] theorem bh1 (id : Nat) (ops : List Oper) (a o nx) (Q : m4) : WP E cr k nz (.region id ⟨ops⟩ false) a o nx Q = WS E cr nx ⟨ops⟩ ops a o (nx + 1) Q := by
 unfold WP WS
 simp only [x7, ax1]
 cases steps E (fun _ _ => none) cr nx ⟨ops⟩ ops a ⟨o, nx + 1⟩ <;> rfl
def aR4 (E : Env) (cr : q7) (prs : Option (List (Nat × Nat))) (ops : List Oper) (a : n9) (o : Ob) (nx : Nat) (Q : m4) : Prop := match prs with | none => WS E cr nx ⟨ops⟩ ops a o (nx + 1) Q | some l => WF E cr nx ⟨ops⟩ l 0 ops [] a o (nx + 1) Q
@[go_sem] theorem bQ6 (ops a o nx) (Q : m4) : aR4 E cr none ops a o nx Q = WS E cr nx ⟨ops⟩ ops a o (nx + 1) Q := rfl
@[go_sem] theorem bQ7 (l ops a o nx) (Q : m4) : aR4 E cr (some l) ops a o nx Q = WF E cr nx ⟨ops⟩ l 0 ops [] a o (nx + 1) Q := rfl
@[go_sem] theorem bh2 (id : Nat) (ops : List Oper) (a o nx) (Q : m4) : WP E cr k nz (.region id ⟨ops⟩ true) a o nx Q = aR4 E cr (nz id) ops a o nx Q := by
 unfold WP aR4 WS WF
 simp only [x7, ax1]
 cases nz id with
 | none =>
  dsimp only
  cases steps E (fun _ _ => none) cr nx ⟨ops⟩ ops a ⟨o, nx + 1⟩ <;> rfl
 | some prs =>
  dsimp only
  cases W7 E (fun _ _ => none) cr nx ⟨ops⟩ (F8 prs) 0 ops a ⟨o, nx + 1⟩ with
  | none => rfl
  | some p =>
   obtain ⟨a', H', gs⟩ := p
   dsimp only
   rw [List.nil_append]
   cases I3 gs prs <;> simp
theorem am7 {c : Code} {Q : m4} (I : Nat → n9 → Ob → Nat → Prop) (step : ∀ m a o nx, I m a o nx → WP E cr k nz c a o nx (fun u a' o' nx' => match u with | .normal => ∃ m', m' < m ∧ I m' a' o' nx' | u => Q u a' o' nx')) :
  ∀ (n m : Nat), m < n → ∀ a o nx, I m a o nx → match bd6 (x7 E (fun _ _ => none) cr k nz none c) n a ⟨o, nx⟩ with | some (u, a', H') => Q u a' H'.o H'.nx | none => False
 | 0, m, h, _, _, _, _ => by omega
 | n + 1, m, h, a, o, nx, hI => by
  have hs := step m a o nx hI
  unfold WP at hs
  unfold bd6
  cases he : x7 E (fun _ _ => none) cr k nz none c a ⟨o, nx⟩ with
  | none => rw [he] at hs; exact hs.elim
  | some p =>
   obtain ⟨u, a', H'⟩ := p
   rw [he] at hs
   cases u with
   | normal =>
    obtain ⟨m', h1, h2⟩ := hs
    exact am7 I step n m' (by omega) a' H'.o H'.nx h2
   | _ => exact hs
def aD7 (I : Nat → n9 → Ob → Nat → Prop) (m : Nat) (Q : m4) : m4 := fun u a' o' nx' => match u with
 | .normal => ∃ m', m' < m ∧ I m' a' o' nx'
 | u => Q u a' o' nx'
@[go_sem] theorem bx9 (I m) (Q : m4) (a o nx) : aD7 I m Q .normal a o nx = ∃ m', m' < m ∧ I m' a o nx := rfl
@[go_sem] theorem cf1 (I m) (Q : m4) (a o nx) : aD7 I m Q .ret a o nx = Q .ret a o nx := rfl
@[go_sem] theorem bQ8 (I m) (Q : m4) (i a o nx) : aD7 I m Q (.exit i) a o nx = Q (.exit i) a o nx := rfl
@[go_sem] theorem bQ9 (I m) (Q : m4) (i a o nx) : aD7 I m Q (.goto i) a o nx = Q (.goto i) a o nx := rfl
theorem m9 {c : Code} {Q : m4} (I : Nat → n9 → Ob → Nat → Prop) (m : Nat) (hm : m < k) {a : n9} {o : Ob} {nx : Nat} (h0 : I m a o nx)
  (step : ∀ m a o nx, I m a o nx → WP E cr k nz c a o nx (aD7 I m Q)) : WP E cr k nz (.loop c) a o nx Q := by
 unfold WP
 simp only [x7]
 refine am7 I (fun m a o nx h => L3 (step m a o nx h) ?_) k m hm a o nx h0
 intro u a o nx h
 cases u <;> exact h
@[go_sem] theorem ck3 (st ops a o nx) (Q : m4) : WS E cr st ops [] a o nx Q = Q .normal a o nx := rfl
theorem ax3 (st ops x l a o nx) (Q : m4) : WS E cr st ops (x :: l) a o nx Q = wO (Q1 E (fun _ _ => none) cr st ops x a ⟨o, nx⟩) (fun p => WS E cr st ops l p.1 p.2.o p.2.nx Q) := by
 unfold WS wO
 simp only [steps]
 cases Q1 E (fun _ _ => none) cr st ops x a ⟨o, nx⟩ <;> rfl
theorem D9 (st ops d op ty p af l a o nx) (Q : m4) : WS E cr st ops (⟨d, op, ty, p, af, none⟩ :: l) a o nx Q = wO (f7 E (fun _ _ => none) cr st ⟨d, op, ty, p, af, none⟩ a ⟨o, nx⟩) (fun q => WS E cr st ops l (K4 a d q.1) q.2.o q.2.nx Q) := by
 rw [ax3]
 unfold wO
 simp only [Q1, y5]
 cases f7 E (fun _ _ => none) cr st ⟨d, op, ty, p, af, none⟩ a ⟨o, nx⟩ <;> rfl
def bR0 (E : Env) (cr : q7) (b : Bool) (st : Nat) (ops : Array Oper) (x : Oper) (l : List Oper) (a : n9) (o : Ob) (nx : Nat) (Q : m4) : Prop := match b with | true => WS E cr st ops (x :: l) a o nx Q | false => WS E cr st ops l (K4 a x.dst noV) o nx Q
def wG (E : Env) (cr : q7) (y : Option (Option Bool)) (want : Bool) (st : Nat) (ops : Array Oper) (x : Oper) (l : List Oper) (a : n9) (o : Ob) (nx : Nat) (Q : m4) : Prop := match y with | none => False | some none => WS E cr st ops l (K4 a x.dst noV) o nx Q | some (some b) => bR0 E cr (b == want) st ops x l a o nx Q
@[go_sem] theorem cK5 (w st ops d op ty p af g l a o nx) (Q : m4) : wG E cr (some none) w st ops ⟨d, op, ty, p, af, g⟩ l a o nx Q = WS E cr st ops l (K4 a d noV) o nx Q := rfl
@[go_sem] theorem cK6 (b st ops x l a o nx) (Q : m4) : wG E cr (some (some b)) true st ops x l a o nx Q = bR0 E cr b st ops x l a o nx Q := by cases b <;> rfl
@[go_sem] theorem cC6 (b st ops x l a o nx) (Q : m4) : wG E cr (some (some b)) false st ops x l a o nx Q = bR0 E cr (!b) st ops x l a o nx Q := by cases b <;> rfl
@[go_sem] theorem ck4 (st ops x l a o nx) (Q : m4) : bR0 E cr true st ops x l a o nx Q = WS E cr st ops (x :: l) a o nx Q := rfl
@[go_sem] theorem cf2 (st ops d op ty p af g l a o nx) (Q : m4) : bR0 E cr false st ops ⟨d, op, ty, p, af, g⟩ l a o nx Q = WS E cr st ops l (K4 a d noV) o nx Q := rfl
@[go_sem] theorem bR1 (p : Prop) [Decidable p] (st ops x l a o nx) (Q : m4) : bR0 E cr (decide p) st ops x l a o nx Q = bR0 E cr (if p then true else false) st ops x l a o nx Q := by
 by_cases h : p <;> simp [h]
@[go_sem] theorem cC7 (st ops d op ty p af j want l a o nx) (Q : m4) : WS E cr st ops (⟨d, op, ty, p, af, some (j, want)⟩ :: l) a o nx Q = wG E cr (C6 ops a j) want st ops ⟨d, op, ty, p, af, none⟩ l a o nx Q := by
 rw [ax3]
 unfold wG
 cases hy : C6 ops a j with
 | none => unfold Q1 y5 wO; simp only [hy, Option.map_none]
 | some y =>
  cases y with
  | none => unfold Q1 y5 wO; simp only [hy, Option.map_some]; rfl
  | some b =>
   have h1 : Q1 E (fun _ _ => none) cr st ops ⟨d, op, ty, p, af, some (j, want)⟩ a ⟨o, nx⟩ = (match some (some b == some want) with | some true => (f7 E (fun _ _ => none) cr st ⟨d, op, ty, p, af, none⟩ a ⟨o, nx⟩).map fun p => (K4 a d p.1, p.2) | some false => some (K4 a d noV, ⟨o, nx⟩) | none => none) := by
    unfold Q1 y5
    simp only [hy, Option.map_some]
    rfl
   have h2 : Q1 E (fun _ _ => none) cr st ops ⟨d, op, ty, p, af, none⟩ a ⟨o, nx⟩ = (f7 E (fun _ _ => none) cr st ⟨d, op, ty, p, af, none⟩ a ⟨o, nx⟩).map fun p => (K4 a d p.1, p.2) := rfl
   cases b <;> cases want
   ·show wO _ _ = WS E cr st ops (_ :: l) a o nx Q
    rw [ax3, h2, h1]
    rfl
   ·rw [h1]; rfl
   ·rw [h1]; rfl
   ·show wO _ _ = WS E cr st ops (_ :: l) a o nx Q
    rw [ax3, h2, h1]
    rfl
def yv (v : AV) : Option (Option Bool) := match v with | .bool b => some (some b) | .und => none | .mp _ => none | _ => some none
@[go_sem] theorem cK7 (b : Bool) : yv (.bool b) = some (some b) := rfl
@[go_sem] theorem cX2 (l) : yv (.tup l) = some none := rfl
@[go_sem] theorem cX3 (k n) : yv (.int k n) = some none := rfl
def bR2 (o : Option Oper) (a : n9) : Option (Option Bool) := match o with | some ⟨some d, _, _, _, _, _⟩ => yv (a d) | _ => some none
@[go_sem] theorem cf3 (d op ty p af g a) : bR2 (some ⟨some d, op, ty, p, af, g⟩) a = yv (a d) := rfl
@[go_sem] theorem cf4 (ops : List Oper) (a : n9) (j : Nat) : C6 ⟨ops⟩ a j = bR2 ops[j]? a := by
 unfold C6 bR2
 rw [List.getElem?_toArray]
 cases ops[j]? with
 | none => rfl
 | some x =>
  obtain ⟨d, op, ty, p, af, g⟩ := x
  cases d with
  | none => rfl
  | some d => rfl
def bR3 (E : Env) (cr : q7) (st : Nat) (ops : Array Oper) (prs : List (Nat × Nat)) (i : Nat) (l : List Oper) (fs : List FP) (Q : m4) : m4 := fun _ a o nx => WF E cr st ops prs i l fs a o nx Q
@[go_sem] theorem cC8 (st ops prs i l fs) (Q : m4) (u a o nx) : bR3 E cr st ops prs i l fs Q u a o nx = WF E cr st ops prs i l fs a o nx Q := rfl
@[go_sem] theorem cK8 (st ops prs i x l fs a o nx) (Q : m4) : WF E cr st ops prs i (x :: l) fs a o nx Q = WS E cr st ops [x] a o nx (bR3 E cr st ops prs (i + 1) l (fs ++ [bif F8 prs i then y7 E st ops x a ⟨o, nx⟩ else FP.none_]) Q) := by
 unfold WF WS bR3 WF
 simp only [W7, steps]
 cases Q1 E (fun _ _ => none) cr st ops x a ⟨o, nx⟩ with
 | none => rfl
 | some p =>
  obtain ⟨a', H'⟩ := p
  dsimp only
  cases W7 E (fun _ _ => none) cr st ops (F8 prs) (i + 1) l a' H' with
  | none => rfl
  | some q =>
   obtain ⟨a2, H2, gs⟩ := q
   dsimp only
   rw [List.append_assoc]
   cases F8 prs i <;> rfl
@[go_sem] theorem cX4 (st ops prs i fs a o nx) (Q : m4) : WF E cr st ops prs i [] fs a o nx Q = (I3 fs prs = true ∧ Q .normal a o nx) := by
 unfold WF
 simp only [W7, List.append_nil]
def kV (E : Env) (cr : q7) (st : Nat) (ops : Array Oper) (l : List Oper) (a : n9) (d : Nat) (o : Ob) (nx : Nat) (Q : m4) (v : AV) : Prop := WS E cr st ops l (put a d v) o nx Q
def kH (E : Env) (cr : q7) (st : Nat) (ops : Array Oper) (l : List Oper) (a : n9) (d : Option Nat) (Q : m4) (q : AV × AH) : Prop := WS E cr st ops l (K4 a d q.1) q.2.o q.2.nx Q
def kS (E : Env) (cr : q7) (st : Nat) (ops : Array Oper) (l : List Oper) (a : n9) (Q : m4) (H : AH) : Prop := WS E cr st ops l a H.o H.nx Q
def kA (E : Env) (cr : q7) (st : Nat) (ops : Array Oper) (l : List Oper) (a : n9) (d : Nat) (e : TypeId) (o : Ob) (nx : Nat) (Q : m4) (z : List AV) : Prop := WS E cr st ops l (put a d (.ptr (st, d) (st, d) 0)) (upd o (st, d) (.row ⟨e, 1, (st, d), false, true, z⟩)) nx Q
def aK6 (cs : List AV) : Option (List AV) := if cs.all n5 = true then some cs else none
@[go_sem] theorem cf5 (cs) : aK6 cs = if cs.all n5 = true then some cs else none := rfl
@[go_sem] theorem dk4 (st ops l a d o nx) (Q : m4) (v) : kV E cr st ops l a d o nx Q v = WS E cr st ops l (put a d v) o nx Q := rfl
@[go_sem] theorem cK9 (st ops l a d) (Q : m4) (v o nx) : kH E cr st ops l a d Q (v, ⟨o, nx⟩) = WS E cr st ops l (K4 a d v) o nx Q := rfl
@[go_sem] theorem dk5 (st ops l a) (Q : m4) (o nx) : kS E cr st ops l a Q ⟨o, nx⟩ = WS E cr st ops l a o nx Q := rfl
@[go_sem] theorem dk6 (st ops l a d e o nx) (Q : m4) (z) : kA E cr st ops l a d e o nx Q z = WS E cr st ops l (put a d (.ptr (st, d) (st, d) 0)) (upd o (st, d) (.row ⟨e, 1, (st, d), false, true, z⟩)) nx Q := rfl
section
variable (st : Nat) (ops : Array Oper) (ty : TypeId) (p : String) (af : Array Edge) (l : List Oper) (a : n9) (o : Ob) (nx : Nat) (Q : m4)
@[go_sem] theorem cX5 (d x) : WS E cr st ops (⟨some d, .move x, ty, p, af, none⟩ :: l) a o nx Q = wO (opd a x) (kV E cr st ops l a d o nx Q) := by
 rw [D9]; unfold wO; simp only [f7]; cases opd a x <;> rfl
@[go_sem] theorem cC9 (d x) : WS E cr st ops (⟨some d, .assign x, ty, p, af, none⟩ :: l) a o nx Q = wO (opd a x) (kV E cr st ops l a d o nx Q) := by
 rw [D9]; unfold wO; simp only [f7]; cases opd a x <;> rfl
def ar0 (c x y : Option AV) : Option AV := match c with | some (.bool true) => x | some (.bool false) => y | _ => none
@[go_sem] theorem cf6 (x y) : ar0 (some (.bool true)) x y = x := rfl
@[go_sem] theorem bR4 (x y) : ar0 (some (.bool false)) x y = y := rfl
@[go_sem] theorem bM0 (b : Bool) (x : Bool) : ar0 (some (.bool b)) (some (.bool x)) (some (.bool false)) = some (.bool (b && x)) := by cases b <;> rfl
@[go_sem] theorem bR5 (b : Bool) (x : Bool) : ar0 (some (.bool b)) (some (.bool true)) (some (.bool x)) = some (.bool (b || x)) := by cases b <;> rfl
@[go_sem] theorem cf7 (p : Prop) [Decidable p] (y) : ar0 (some (.bool (decide p))) (some noV) y = ar0 (some (.bool (if p then true else false))) (some noV) y := by
 by_cases h : p <;> simp [h]
@[go_sem] theorem cf8 (p : Prop) [Decidable p] (y) : ar0 (some (.bool (decide p))) y (some noV) = ar0 (some (.bool (if p then true else false))) y (some noV) := by
 by_cases h : p <;> simp [h]
@[go_sem] theorem cL0 (p q : Prop) [Decidable p] [Decidable q] : (decide p && decide q) = decide (p ∧ q) := (Bool.decide_and p q).symm
@[go_sem] theorem cX6 (p q : Prop) [Decidable p] [Decidable q] : (decide p || decide q) = decide (p ∨ q) := (Bool.decide_or p q).symm
@[go_sem] theorem cL1 (p : Prop) [Decidable p] : (!decide p) = decide (¬ p) := decide_not.symm
@[go_sem] theorem cX7 (d c x y) : WS E cr st ops (⟨some d, .pick c x y, ty, p, af, none⟩ :: l) a o nx Q = wO (ar0 (opd a c) (opd a x) (opd a y)) (kV E cr st ops l a d o nx Q) := by
 rw [D9]; unfold wO ar0; simp only [f7]
 cases opd a c with
 | none => rfl
 | some v => cases v with
  | bool b =>
   cases b with
   | true => cases opd a x <;> rfl
   | false => cases opd a y <;> rfl
  | _ => rfl
@[go_sem] theorem cL2 (d e) : WS E cr st ops (⟨some d, .alloc e, ty, p, af, none⟩ :: l) a o nx Q = wO (F6 E.P e) (kA E cr st ops l a d e o nx Q) := by
 rw [D9]; unfold wO; simp only [f7]; cases F6 E.P e <;> rfl
@[go_sem] theorem dk7 (d e x) : WS E cr st ops (⟨some d, .box e x, ty, p, af, none⟩ :: l) a o nx Q = wO ((opd a x).bind fun v => aK6 v.cells) (kA E cr st ops l a d e o nx Q) := by
 rw [D9]; unfold wO; simp only [f7]
 cases opd a x with
 | none => rfl
 | some v =>
  dsimp only [Option.bind_some, aK6]
  cases h : v.cells.all n5 <;> rfl
@[go_sem] theorem cL3 (d t ps) : WS E cr st ops (⟨some d, .build t ps, ty, p, af, none⟩ :: l) a o nx Q = wO ((A0 a ps.toList).bind (C9 E.P t)) (kV E cr st ops l a d o nx Q) := by
 rw [D9]; unfold wO; simp only [f7]
 cases A0 a ps.toList with
 | none => rfl
 | some v => simp only [Option.bind_some]; cases C9 E.P t v <;> rfl
@[go_sem] theorem bM1 (d t n ps) : WS E cr st ops (⟨some d, .buildSlice t n ps, ty, p, af, none⟩ :: l) a o nx Q = wO ((A0 a ps.toList).bind fun qs => l8 E.P (st, d) t n qs ⟨o, nx⟩) (kH E cr st ops l a (some d) Q) := by
 rw [D9]; unfold wO; simp only [f7, ac6]; cases (A0 a ps.toList).bind fun qs => l8 E.P (st, d) t n qs ⟨o, nx⟩ <;> rfl
@[go_sem] theorem cX8 (d t x) : WS E cr st ops (⟨some d, .load t x, ty, p, af, none⟩ :: l) a o nx Q = wO ((opd a x).bind fun v => O1 E.P t v ⟨o, nx⟩) (kV E cr st ops l a d o nx Q) := by
 rw [D9]; unfold wO; simp only [f7]
 cases opd a x with
 | none => rfl
 | some v => simp only [Option.bind_some]; cases O1 E.P t v ⟨o, nx⟩ <;> rfl
@[go_sem] theorem cL4 (t x y) : WS E cr st ops (⟨none, .store t x y, ty, p, af, none⟩ :: l) a o nx Q = wO ((opd a x).bind fun pv => (opd a y).bind fun v => H7 E.P t pv v ⟨o, nx⟩) (kS E cr st ops l a Q) := by
 rw [D9]; unfold wO; simp only [f7]
 cases opd a x with
 | none => rfl
 | some v =>
  simp only [Option.bind_some]
  cases opd a y with
  | none => rfl
  | some u => simp only [Option.bind_some]; cases H7 E.P t v u ⟨o, nx⟩ <;> rfl
def cD0 (v : AV) : Option AV := match v with | .ptr k g off => some (.ptr k g off) | .fptr cs => some (.fptr cs) | .fn (.func f) first captured => some (.fn (.func f) first captured) | _ => none
@[go_sem] theorem cD1 (k g off) : cD0 (.ptr k g off) = some (.ptr k g off) := rfl
@[go_sem] theorem ck5 (cs) : cD0 (.fptr cs) = some (.fptr cs) := rfl
@[go_sem] theorem cL5 (f x y) : cD0 (.fn (.func f) x y) = some (.fn (.func f) x y) := rfl
@[go_sem] theorem cf9 (d x) : WS E cr st ops (⟨some d, .nilCheck x, ty, p, af, none⟩ :: l) a o nx Q = wO ((opd a x).bind cD0) (kV E cr st ops l a d o nx Q) := by
 rw [D9]; unfold wO; simp only [f7]
 cases opd a x with
 | none => rfl
 | some v =>
  simp only [Option.bind_some]
  cases v with
  | fn f x y => cases f <;> rfl
  | _ => rfl
@[go_sem] theorem cL6 (d op t x y t') : WS E cr st ops (⟨some d, .binOp op t x y t', ty, p, af, none⟩ :: l) a o nx Q = wO ((opd a x).bind fun u => (opd a y).bind fun v => G3 E.P op t u v) (kV E cr st ops l a d o nx Q) := by
 rw [D9]; unfold wO; simp only [f7]
 cases opd a x with
 | none => rfl
 | some v =>
  simp only [Option.bind_some]
  cases opd a y with
  | none => rfl
  | some u => simp only [Option.bind_some]; cases G3 E.P op t v u <;> rfl
@[go_sem] theorem cX9 (d op t x) : WS E cr st ops (⟨some d, .unOp op t x, ty, p, af, none⟩ :: l) a o nx Q = wO ((opd a x).bind (aUn op)) (kV E cr st ops l a d o nx Q) := by
 rw [D9]; unfold wO; simp only [f7]
 cases opd a x with
 | none => rfl
 | some v => simp only [Option.bind_some]; cases aUn op v <;> rfl
@[go_sem] theorem ck6 (d s t x) : WS E cr st ops (⟨some d, .convert s t x, ty, p, af, none⟩ :: l) a o nx Q = wO ((opd a x).bind fun u => d7 E.P (st, d) s t u ⟨o, nx⟩) (kH E cr st ops l a (some d) Q) := by
 rw [D9]; unfold wO; simp only [f7, ac6]; cases (opd a x).bind fun u => d7 E.P (st, d) s t u ⟨o, nx⟩ <;> rfl
def cL7 (fn : Fn) (f c : Option (List AV)) : Option AV := match f, c with | some f, some c => some (.fn fn f c) | _, _ => none
@[go_sem] theorem ck7 (fn f c) : cL7 fn (some f) (some c) = some (.fn fn f c) := rfl
@[go_sem] theorem cg0 (d fn f c) : WS E cr st ops (⟨some d, .makeFunc fn f c, ty, p, af, none⟩ :: l) a o nx Q = wO (cL7 fn (R9 a f.toList) (R9 a c.toList)) (kV E cr st ops l a d o nx Q) := by
 rw [D9]; unfold wO cL7; simp only [f7]
 cases R9 a f.toList with
 | none => rfl
 | some v => cases R9 a c.toList <;> rfl
@[go_sem] theorem bR6 (d t x y) : WS E cr st ops (⟨some d, .makeSlice t x y, ty, p, af, none⟩ :: l) a o nx Q = wO ((Y8 a x).bind fun lv => (Y8 a y).bind fun cv => q8 E.P (st, d) t lv cv ⟨o, nx⟩) (kH E cr st ops l a (some d) Q) := by
 rw [D9]; unfold wO; simp only [f7, ac6]; cases (Y8 a x).bind fun lv => (Y8 a y).bind fun cv => q8 E.P (st, d) t lv cv ⟨o, nx⟩ <;> rfl
@[go_sem] theorem cL8 (d t x lo hi) : WS E cr st ops (⟨some d, .slice t x lo hi none, ty, p, af, none⟩ :: l) a o nx Q = wO ((opd a x).bind fun v => (aA5 a lo).bind fun l => (aA5 a hi).bind fun h => R8 E.P t v l h) (kV E cr st ops l a d o nx Q) := by
 rw [D9]; unfold wO; simp only [f7]
 cases opd a x with
 | none => rfl
 | some v =>
  simp only [Option.bind_some]
  cases aA5 a lo with
  | none => rfl
  | some u =>
   simp only [Option.bind_some]
   cases aA5 a hi with
   | none => rfl
   | some h => simp only [Option.bind_some]; cases R8 E.P t v u h <;> rfl
def d5 (P : Program) (t : TypeId) (f : Nat) (v : AV) : Option AV := match v, E9 P t f with
 | .ptr k g off, some (o', ft) => if (l7 P ft).getD 0 = 0 then none else some (.ptr k g (off + o'))
 | .fptr cs, some (o', ft) => if (l7 P ft).getD 0 = 0 then none else some (.fptr (cs.drop o'))
 | _, _ => none
def aD8 (P : Program) (t : TypeId) (f : Nat) (v : AV) : Option AV := match v, E9 P t f with
 | .agg cs, some (o', ft) => P0 P ft (cs.drop o')
 | _, _ => none
@[go_sem] theorem bR7 (d t x f) : WS E cr st ops (⟨some d, .fieldAddr t x f, ty, p, af, none⟩ :: l) a o nx Q = wO ((opd a x).bind (d5 E.P t f)) (kV E cr st ops l a d o nx Q) := by
 rw [D9]; unfold wO; simp only [f7]
 cases opd a x with
 | none => rfl
 | some v =>
  simp only [Option.bind_some, d5]
  cases v with
  | ptr k g off =>
   cases E9 E.P t f with
   | none => rfl
   | some q =>
    dsimp only
    by_cases h : (l7 E.P q.2).getD 0 = 0 <;> simp [h, K4, kV]
  | fptr cs =>
   cases E9 E.P t f with
   | none => rfl
   | some q =>
    dsimp only
    by_cases h : (l7 E.P q.2).getD 0 = 0 <;> simp [h, K4, kV]
  | _ => rfl
@[go_sem] theorem cL9 (d t x f) : WS E cr st ops (⟨some d, .field t x f, ty, p, af, none⟩ :: l) a o nx Q = wO ((opd a x).bind (aD8 E.P t f)) (kV E cr st ops l a d o nx Q) := by
 rw [D9]; unfold wO; simp only [f7]
 cases opd a x with
 | none => rfl
 | some v =>
  simp only [Option.bind_some, aD8]
  cases v with
  | agg cs =>
   cases E9 E.P t f with
   | none => rfl
   | some q => dsimp only; cases P0 E.P q.2 (cs.drop q.1) <;> rfl
  | _ => rfl
@[go_sem] theorem bR8 (d t x i) : WS E cr st ops (⟨some d, .indexAddr t x i, ty, p, af, none⟩ :: l) a o nx Q = wO ((opd a x).bind fun v => (Y8 a i).bind fun j => j0 E.P t v j) (kV E cr st ops l a d o nx Q) := by
 rw [D9]; unfold wO; simp only [f7]
 cases opd a x with
 | none => rfl
 | some v =>
  simp only [Option.bind_some]
  cases Y8 a i with
  | none => rfl
  | some u => simp only [Option.bind_some]; cases j0 E.P t v u <;> rfl
@[go_sem] theorem cM0 (d t x i) : WS E cr st ops (⟨some d, .index t x i, ty, p, af, none⟩ :: l) a o nx Q = wO ((opd a x).bind fun v => (Y8 a i).bind fun j => R3 E.P t v j) (kV E cr st ops l a d o nx Q) := by
 rw [D9]; unfold wO; simp only [f7]
 cases opd a x with
 | none => rfl
 | some v =>
  simp only [Option.bind_some]
  cases Y8 a i with
  | none => rfl
  | some u => simp only [Option.bind_some]; cases R3 E.P t v u <;> rfl
def ax4 (i : Nat) (v : AV) : Option AV := match v with | .tup vs => vs[i]? | _ => none
@[go_sem] theorem bM2 (i vs) : ax4 i (.tup vs) = vs[i]? := rfl
@[go_sem] theorem ck8 (d t i) : WS E cr st ops (⟨some d, .extract t i, ty, p, af, none⟩ :: l) a o nx Q = wO ((opd a t).bind (ax4 i)) (kV E cr st ops l a d o nx Q) := by
 rw [D9]; unfold wO; simp only [f7]
 cases opd a t with
 | none => rfl
 | some v =>
  simp only [Option.bind_some, ax4]
  cases v with
  | tup vs => dsimp only; cases vs[i]? <;> rfl
  | _ => rfl
@[go_sem] theorem dk8 (d x t) : WS E cr st ops (⟨some d, .call ⟨.builtin .len, #[x], #[t]⟩, ty, p, af, none⟩ :: l) a o nx Q = wO ((opd a x).bind (N4 E.P o t)) (kV E cr st ops l a d o nx Q) := by
 rw [D9]; unfold wO; simp only [f7, R9]
 cases opd a x with
 | none => rfl
 | some v =>
  simp only [Option.bind_some]
  rw [if_pos (by exact Nat.succ_pos _)]
  simp only [Array.getD_eq_getD_getElem?, List.getElem?_toArray, List.getElem?_cons_zero, Option.getD_some]
  cases N4 E.P o t v <;> rfl
@[go_sem] theorem cD2 (d x y t t') : WS E cr st ops (⟨some d, .call ⟨.builtin .append, #[x, y], #[t, t']⟩, ty, p, af, none⟩ :: l) a o nx Q = wO ((opd a x).bind fun u => (opd a y).bind fun v => u3 E.P (st, d) t t' u v ⟨o, nx⟩) (kH E cr st ops l a (some d) Q) := by
 rw [D9]; unfold wO; simp only [f7, R9, ac6]
 cases opd a x with
 | none => rfl
 | some u =>
  simp only [Option.bind_some]
  cases opd a y with
  | none => rfl
  | some v =>
   simp only [Option.bind_some]
   rw [if_pos (by rfl)]
   simp only [Array.getD_eq_getD_getElem?, List.getElem?_toArray, List.getElem?_cons_zero, List.getElem?_cons_succ, Option.getD_some]
   cases u3 E.P (st, d) t t' u v ⟨o, nx⟩ <;> rfl
@[go_sem] theorem cY0 (d x y t t') : WS E cr st ops (⟨d, .call ⟨.builtin .copy, #[x, y], #[t, t']⟩, ty, p, af, none⟩ :: l) a o nx Q = wO ((opd a x).bind fun u => (opd a y).bind fun v => Q0 E.P t u v ⟨o, nx⟩) (kH E cr st ops l a d Q) := by
 rw [D9]; unfold wO; simp only [f7, R9]
 cases opd a x with
 | none => rfl
 | some u =>
  simp only [Option.bind_some]
  cases opd a y with
  | none => rfl
  | some v =>
   simp only [Option.bind_some]
   rw [if_pos (by exact Nat.succ_pos _)]
   simp only [Array.getD_eq_getD_getElem?, List.getElem?_toArray, List.getElem?_cons_zero, Option.getD_some]
   cases Q0 E.P t u v ⟨o, nx⟩ <;> rfl
@[go_sem] theorem dk9 (d x y t t') : WS E cr st ops (⟨some d, .call ⟨.builtin .max, #[x, y], #[t, t']⟩, ty, p, af, none⟩ :: l) a o nx Q = wO ((opd a x).bind fun u => (opd a y).bind fun v => cj7 [u, v]) (kV E cr st ops l a d o nx Q) := by
 rw [D9]; unfold wO; simp only [f7, R9]
 cases opd a x with
 | none => rfl
 | some u =>
  simp only [Option.bind_some]
  cases opd a y with
  | none => rfl
  | some v => simp only [Option.bind_some]; cases cj7 [u, v] <;> rfl
@[go_sem] theorem dl0 (d x y t t') : WS E cr st ops (⟨some d, .call ⟨.builtin .min, #[x, y], #[t, t']⟩, ty, p, af, none⟩ :: l) a o nx Q = wO ((opd a x).bind fun u => (opd a y).bind fun v => ce5 [u, v]) (kV E cr st ops l a d o nx Q) := by
 rw [D9]; unfold wO; simp only [f7, R9]
 cases opd a x with
 | none => rfl
 | some u =>
  simp only [Option.bind_some]
  cases opd a y with
  | none => rfl
  | some v => simp only [Option.bind_some]; cases ce5 [u, v] <;> rfl
@[go_sem] theorem cY1 (d f xs ts) : WS E cr st ops (⟨d, .call ⟨.value f, xs, ts⟩, ty, p, af, none⟩ :: l) a o nx Q = wO ((R9 a xs.toList).bind fun vs => (opd a f).bind fun fv => ah9 E (fun _ _ => none) cr fv vs ⟨o, nx⟩) (kH E cr st ops l a d Q) := by
 rw [D9]; unfold wO; simp only [f7]
 cases (R9 a xs.toList).bind fun args => (opd a f).bind fun fv => ah9 E (fun _ _ => none) cr fv args ⟨o, nx⟩ <;> rfl
end
end
@[go_sem] theorem ck9 (args t) : u7 args t = (args[t]?).getD noV := rfl
@[go_sem] theorem bR9 (a t) : opd a (.tmp t) = some (a t) := rfl
@[go_sem] theorem cD3 (a f) : opd a (.func f) = some (.fn (.func f) [] []) := rfl
@[go_sem] theorem cM1 (a k n) : opd a (.const (.int k n)) = some (.int k n) := rfl
@[go_sem] theorem cD4 (a b) : opd a (.const (.bool b)) = some (.bool b) := rfl
@[go_sem] theorem cM2 (a) : opd a (.const (.slice none 0 0)) = some .nil := rfl
@[go_sem] theorem cM3 (a s) : opd a (.const (.string s)) = some (.str s.data.toList) := rfl
@[go_sem] theorem cD5 (a) : opd a (.const (.pointer none)) = some .nilp := rfl
@[go_sem] theorem cM4 (a) : opd a (.const (.map none)) = some .nilmp := rfl
@[go_sem] theorem cD6 (a) : R9 a [] = some [] := rfl
def bh3 (x : Option AV) (xs : Option (List AV)) : Option (List AV) := match x, xs with | some v, some vs => some (v :: vs) | _, _ => none
@[go_sem] theorem cg1 (v vs) : bh3 (some v) (some vs) = some (v :: vs) := rfl
@[go_sem] theorem cl0 (a x xs) : R9 a (x :: xs) = bh3 (opd a x) (R9 a xs) := rfl
@[go_sem] theorem ax5 (a t v u) : put a t v u = if u = t then v else a u := rfl
@[go_sem] theorem bh4 (a t v) : K4 a (some t) v = put a t v := rfl
@[go_sem] theorem cl1 (a v) : K4 a none v = a := rfl
@[go_sem] theorem b8 (o i j x k l) : upd o (i, j) x (k, l) = if l = j then (if k = i then some x else o (k, l)) else o (k, l) := by
 unfold upd
 by_cases h1 : l = j <;> by_cases h2 : k = i <;> simp [h1, h2]
@[go_sem] theorem cM5 (o nx t e s b cs) : (W4 ⟨o, nx⟩ t e s b cs).o = upd o t (.row ⟨e, s, t, false, b, cs⟩) := rfl
@[go_sem] theorem cD7 (o nx t e s b cs) : (W4 ⟨o, nx⟩ t e s b cs).nx = nx := rfl
@[go_sem] theorem cD8 (o nx t r) : (aj5 ⟨o, nx⟩ t r).o = upd o t (.row r) := rfl
@[go_sem] theorem cl2 (o nx t r) : (aj5 ⟨o, nx⟩ t r).nx = nx := rfl
def N0 (x : Option AObj) (g : Tag) : Option Row := match x with | some (.row r) => if r.gen = g then some r else none | _ => none
@[go_sem] theorem X9 (o k g) : P7 o k g = N0 (o k) g := rfl
@[go_sem] theorem K1 (e s g ro pl cs) : N0 (some (.row ⟨e, s, g, ro, pl, cs⟩)) g = some ⟨e, s, g, ro, pl, cs⟩ := if_pos rfl
@[go_sem] theorem cl3 (P t k g off o nx) : O1 P t (.ptr k g off) ⟨o, nx⟩ = (P7 o k g).bind fun r => P0 P t (r.cs.drop off) := by
 unfold O1; dsimp only; cases P7 o k g <;> rfl
@[go_sem] theorem cg2 (P t cs o nx) : O1 P t (.fptr cs) ⟨o, nx⟩ = P0 P t cs := rfl
def bh5 (k : Tag) (off n : Nat) (cs : List AV) (o : Ob) (nx : Nat) (r : Row) : Option AH :=
 if cs.length = n ∧ cs.all n5 = true ∧ r.ro = false ∧ off + n ≤ r.cs.length then some ⟨upd o k (.row { r with cs := r7 r.cs off cs }), nx⟩ else none
@[go_sem] theorem cg3 (P t k g off x o nx) : H7 P t (.ptr k g off) x ⟨o, nx⟩ = (l7 P t).bind fun n => (P7 o k g).bind (bh5 k off n x.cells o nx) := by
 unfold H7
 dsimp only
 cases l7 P t with
 | none => rfl
 | some n =>
  dsimp only [Option.bind_some]
  cases P7 o k g <;> rfl
def cl4 (b : Option Bool) (n : Option Nat) (cs : List AV) : Option AV := match b, n with | some b, some n => H6 b n cs | _, _ => none
@[go_sem] theorem cg4 (b n cs) : cl4 (some b) (some n) cs = H6 b n cs := rfl
@[go_sem] theorem cD9 (P t cs) : P0 P t cs = cl4 (H5 P t) (l7 P t) cs := rfl
@[go_sem] theorem cl5 (n x cs) : H6 false n (x :: cs) = some x := rfl
@[go_sem] theorem cl6 (n cs) : H6 true n cs = if n ≤ cs.length then some (.agg (cs.take n)) else none := rfl
@[go_sem] theorem cM6 (n) : asI (.int .i64 n) = some n := rfl
@[go_sem] theorem cM7 (a x) : Y8 a x = (opd a x).bind asI := rfl
@[go_sem] theorem cl7 (a) : aA5 a none = some none := rfl
@[go_sem] theorem cl8 (a x) : aA5 a (some x) = (Y8 a x).map some := rfl
@[go_sem] theorem cl9 (cs) : AV.cells (.agg cs) = cs := rfl
@[go_sem] theorem cm0 (k n) : AV.cells (.int k n) = [.int k n] := rfl
@[go_sem] theorem cg5 (b) : AV.cells (.bool b) = [.bool b] := rfl
@[go_sem] theorem cm1 (b) : AV.cells (.str b) = [.str b] := rfl
@[go_sem] theorem cm2 : AV.cells .nil = [.nil] := rfl
@[go_sem] theorem cE0 (n cs) : AV.cells (.sl n cs) = [.sl n cs] := rfl
@[go_sem] theorem cm3 (k g off n) : AV.cells (.ref k g off n) = [.ref k g off n] := rfl
@[go_sem] theorem cm4 (k g off) : AV.cells (.ptr k g off) = [.ptr k g off] := rfl
@[go_sem] theorem cg6 (cs) : AV.cells (.fptr cs) = [.fptr cs] := rfl
@[go_sem] theorem cE1 (f x y) : AV.cells (.fn f x y) = [.fn f x y] := rfl
@[go_sem] theorem cE2 (k) : AV.cells (.mp k) = [.mp k] := rfl
@[go_sem] theorem cg7 : AV.cells .nilp = [.nilp] := rfl
@[go_sem] theorem bS0 : AV.cells .nilmp = [.nilmp] := rfl
@[go_sem] theorem cY2 (k n) : n5 (.int k n) = true := rfl
@[go_sem] theorem cM8 (b) : n5 (.bool b) = true := rfl
@[go_sem] theorem cY3 (b) : n5 (.str b) = true := rfl
@[go_sem] theorem cY4 : n5 .nil = true := rfl
@[go_sem] theorem dl1 (n cs) : n5 (.sl n cs) = true := rfl
@[go_sem] theorem cY5 (k g off n) : n5 (.ref k g off n) = true := rfl
@[go_sem] theorem cY6 (k g off) : n5 (.ptr k g off) = true := rfl
@[go_sem] theorem cM9 (cs) : n5 (.fptr cs) = true := rfl
@[go_sem] theorem dl2 (f x y) : n5 (.fn f x y) = true := rfl
@[go_sem] theorem dl3 (k) : n5 (.mp k) = true := rfl
@[go_sem] theorem cN0 : n5 .nilp = true := rfl
@[go_sem] theorem cE3 : n5 .nilmp = true := rfl
theorem D2 {o : Ob} {i i' j j' : Nat} {x : AObj} (h : i ≠ i') : upd o (i', j') x (i, j) = o (i, j) := A9 _ _ _ _ (fun e => h (by injection e))
attribute [go_sem] beq_self_eq_true Nat.sub_zero Option.bind_some Option.bind_none Option.map_some Option.map_none Option.getD_some Option.getD_none List.toList_toArray List.all_cons List.all_nil Bool.and_self Bool.and_true Bool.true_and List.length_cons List.length_nil List.drop_zero List.drop_succ_cons List.drop_nil List.cons_append List.nil_append List.append_nil reduceIte Nat.add_zero Nat.zero_add Nat.mul_one Nat.one_mul Nat.zero_mul Nat.mul_zero ne_eq not_true_eq_false not_false_eq_true or_self or_false false_or and_self and_true true_and and_false false_and List.take_succ_cons List.take_zero List.getElem?_cons_zero List.getElem?_cons_succ eq_self if_true if_false Bool.not_true Bool.not_false Bool.not_not Bool.false_and Bool.and_false Bool.or_true Bool.true_or Bool.or_false Bool.false_or Bool.true_eq_false Bool.false_eq_true
end Go.Proofs.YtpmjpogcaglphaaDoor.A
namespace Go.Proofs.YtpmjpogcaglphaaDoor.A
open Go
abbrev V5 : Int := 140737488355328
attribute [go_sem] V5 Nat.min_self true_or or_true List.length_replicate Nat.le_refl Int.le_refl
@[go_sem] theorem dl4 : ((0 : Nat) : Int) = 0 := rfl
section
variable {P : Program} {t e : TypeId} {s n b : Nat} {z : List AV}
theorem Q7 (h : (E7 P t).bind (l7 P) = some s) (k g off n i) : j0 P t (.ref k g off n) i = if 0 ≤ i ∧ i < (n : Int) then some (.ptr k g (off + i.toNat * s)) else none := by
 unfold j0; simp only [h]
theorem aa0 (h : (E7 P t).bind (l7 P) = some s) (n cs i) : j0 P t (.sl n cs) i = if 0 ≤ i ∧ i < (n : Int) then some (.fptr (cs.drop (i.toNat * s))) else none := by
 unfold j0; simp only [h]
theorem by0 (h : af8 P t = some (n, e)) (hs : l7 P e = some s) (cs i) : j0 P t (.fptr cs) i = if 0 ≤ i ∧ i < (n : Int) then some (.fptr (cs.drop (i.toNat * s))) else none := by
 unfold j0; simp only [h, hs]
theorem aK7 (h : af8 P t = some (n, e)) (hs : l7 P e = some s) (k g off i) : j0 P t (.ptr k g off) i = if 0 ≤ i ∧ i < (n : Int) then some (.ptr k g (off + i.toNat * s)) else none := by
 unfold j0; simp only [h, hs]
theorem bS1 (h : af8 P t = some (n, e)) (hs : l7 P e = some s) (cs i) : R3 P t (.agg cs) i = if 0 ≤ i ∧ i < (n : Int) then P0 P e (cs.drop (i.toNat * s)) else none := by
 unfold R3; simp only [h, hs]
theorem bS2 (h : aq6 (P.underlying t) = true) (x i) : R3 P t (.str x) i = if 0 ≤ i then (x[i.toNat]?).map fun b => .int .u8 b.toNat else none := by
 unfold R3; simp only [h, if_true]
theorem u4 {f o' ft : Nat} (h : E9 P t f = some (o', ft)) (hs : l7 P ft = some (s + 1)) (k g off) : d5 P t f (.ptr k g off) = some (.ptr k g (off + o')) := by
 unfold d5; simp [h, hs]
theorem S8 {f o' ft : Nat} (h : E9 P t f = some (o', ft)) (hs : l7 P ft = some (s + 1)) (cs) : d5 P t f (.fptr cs) = some (.fptr (cs.drop o')) := by
 unfold d5; simp [h, hs]
theorem cm5 {f o' ft : Nat} (h : E9 P t f = some (o', ft)) (cs) : aD8 P t f (.agg cs) = P0 P ft (cs.drop o') := by
 unfold aD8; simp [h]
theorem bh6 (h : (E7 P t).bind (l7 P) = some (s + 1)) (k g off n lo hi) : R8 P t (.ref k g off n) lo hi = if 0 ≤ lo.getD 0 ∧ lo.getD 0 ≤ hi.getD n ∧ hi.getD n ≤ n then some (.ref k g (off + (lo.getD 0).toNat * (s + 1)) ((hi.getD n).toNat - (lo.getD 0).toNat)) else none := by
 unfold R8; simp only [h, Nat.succ_pos, true_and]
theorem au3 (h : P.underlying t = some (.slice e)) (o) : N4 P o t .nil = some (.int .i64 0) := by unfold N4; simp only [h]
theorem aD9 (h : P.underlying t = some (.slice e)) (o n cs) : N4 P o t (.sl n cs) = some (.int .i64 n) := by unfold N4; simp only [h]
theorem W8 (h : P.underlying t = some (.slice e)) (o k g off n) : N4 P o t (.ref k g off n) = some (.int .i64 n) := by unfold N4; simp only [h]
theorem cm6 (h : P.underlying t = some .string) (o x) : N4 P o t (.str x) = some (.int .i64 x.length) := by unfold N4; simp only [h]
theorem aE0 (h : E7 P t = some e) (hs : l7 P e = some (s + 1)) (hb : af7 P e = some b) (hz : F6 P e = some z) (hl : z.length = s + 1) (tg l c o nx) : q8 P tg t l c ⟨o, nx⟩ = if 0 ≤ l ∧ l ≤ c ∧ c * b ≤ V5 ∧ c ≤ V5 then some (.ref tg tg 0 l.toNat, ⟨upd o tg (.row ⟨e, s + 1, tg, false, true, rep z l.toNat⟩), nx⟩) else none := by
 unfold q8; simp only [h, hs, hb, hz, hl, Nat.succ_pos, and_true]; rfl
theorem ai0 (h : E7 P t = some e) (hs : l7 P e = some (s + 1)) (hz : F6 P e = some z) (hl : z.length = s + 1) (tg n ps o nx) : l8 P tg t n ps ⟨o, nx⟩ = if n * (s + 1) ≤ 16777216 then (x6 (fun i => some (i * (s + 1), s + 1)) (rep z n) ps).map (fun cs => (.ref tg tg 0 n, ⟨upd o tg (.row ⟨e, s + 1, tg, false, true, cs⟩), nx⟩)) else none := by
 unfold l8; simp only [h, hs, hz, hl, Nat.succ_pos, and_true]
 split
 ·cases x6 (fun i => some (i * (s + 1), s + 1)) (rep z n) ps <;> rfl
 ·rfl
def aI4 (tg : Tag) (e sz by_ : Nat) (x : AV) (m : Nat) (new : List AV) (o : Ob) (nx : Nat) : Option (AV × AH) :=
 if new.length = m * sz ∧ new.all n5 = true then
  match x with
  | .nil => if m = 0 then some (.nil, ⟨o, nx⟩) else if (m * by_ : Int) ≤ V5 then some (.ref tg tg 0 m, ⟨upd o tg (.row ⟨e, sz, tg, false, true, new⟩), nx⟩) else none
  | .ref k g 0 n => (N0 (o k) g).bind fun r => if r.elem = e ∧ r.sz = sz ∧ r.ro = false ∧ r.plain = true ∧ n * sz ≤ r.cs.length ∧ ((n + m) * by_ : Int) ≤ V5 then some (.ref k tg 0 (n + m), ⟨upd o k (.row { r with gen := tg, cs := r.cs.take (n * sz) ++ new }), nx⟩) else none
  | _ => none
 else none
theorem am8 {t' : TypeId} (h : E7 P t = some e) (hs : l7 P e = some (s + 1)) (hb : af7 P e = some (b + 1)) (hz : F6 P e = some z) (hl : z.length = s + 1) (ht : (aq6 (P.underlying t') || (E7 P t').isSome) = true) (tg x y o nx) : u3 P tg t t' x y ⟨o, nx⟩ = (D0 o y).bind fun q => aI4 tg e (s + 1) (b + 1) x q.1 q.2 o nx := by
 unfold u3
 simp only [h, hs, hb, hz]
 cases D0 o y with
 | none => rfl
 | some q =>
  obtain ⟨m, new⟩ := q
  have h1 : ¬ (aq6 (P.underlying t') = false ∧ (E7 P t').isSome = false) := by
   rintro ⟨h1, h2⟩; rw [h1, h2] at ht; cases ht
  simp only [Option.bind_some, aI4, hl, ne_eq, not_true_eq_false, h1, false_or, Nat.succ_ne_zero]
  by_cases hc : new.length = m * (s + 1) ∧ new.all n5 = true
  ·have c3 : ¬ (¬ new.length = m * (s + 1) ∨ new.all n5 = false) := by
    rintro (h | h)
    ·exact h hc.1
    ·rw [hc.2] at h; cases h
   rw [if_neg c3, if_pos hc]
   cases x with
   | nil =>
    have : (m * (b + 1) ≤ 140737488355328) ↔ ((m : Int) * ((b + 1 : Nat) : Int) ≤ V5) := by unfold V5; rw [← Int.natCast_mul]; omega
    simp only [this]
    rfl
   | ref k g off n =>
    cases off with
    | zero =>
     have : ((n + m) * (b + 1) ≤ 140737488355328) ↔ (((n : Int) + (m : Int)) * ((b + 1 : Nat) : Int) ≤ V5) := by
      unfold V5
      rw [← Int.natCast_add, ← Int.natCast_mul]
      omega
     simp only [X9, this]
     cases N0 (o k) g <;> rfl
    | succ off => rfl
   | _ => rfl
  ·have c3 : (¬ new.length = m * (s + 1) ∨ new.all n5 = false) := by
    by_cases c1 : new.length = m * (s + 1)
    ·exact .inr (by rw [← Bool.not_eq_true]; exact fun h => hc ⟨c1, h⟩)
    ·exact .inl c1
   rw [if_pos c3, if_neg hc]
@[go_sem] theorem by1 (tg e sz by_ m new o nx) : aI4 tg e sz by_ .nil m new o nx = if new.length = m * sz ∧ new.all n5 = true then (if m = 0 then some (.nil, ⟨o, nx⟩) else if (m * by_ : Int) ≤ V5 then some (.ref tg tg 0 m, ⟨upd o tg (.row ⟨e, sz, tg, false, true, new⟩), nx⟩) else none) else none := rfl
def cN1 (tg : Tag) (e sz by_ : Nat) (k : Tag) (n m : Nat) (new : List AV) (o : Ob) (nx : Nat) (r : Row) : Option (AV × AH) :=
 if r.elem = e ∧ r.sz = sz ∧ r.ro = false ∧ r.plain = true ∧ n * sz ≤ r.cs.length ∧ ((n + m) * by_ : Int) ≤ V5 then some (.ref k tg 0 (n + m), ⟨upd o k (.row { r with gen := tg, cs := r.cs.take (n * sz) ++ new }), nx⟩) else none
@[go_sem] theorem by2 (tg e sz by_ k n m new o nx g cs) : cN1 tg e sz by_ k n m new o nx ⟨e, sz, g, false, true, cs⟩ = if n * sz ≤ cs.length ∧ ((n + m) * by_ : Int) ≤ V5 then some (.ref k tg 0 (n + m), ⟨upd o k (.row ⟨e, sz, tg, false, true, cs.take (n * sz) ++ new⟩), nx⟩) else none := by
 unfold cN1; simp
@[go_sem] theorem by3 (tg e sz by_ k g n m new o nx) : aI4 tg e sz by_ (.ref k g 0 n) m new o nx = if new.length = m * sz ∧ new.all n5 = true then (N0 (o k) g).bind (cN1 tg e sz by_ k n m new o nx) else none := rfl
def aE1 (k : Tag) (off n sz m : Nat) (new : List AV) (o : Ob) (nx : Nat) (r : Row) : Option (AV × AH) :=
 if (off = 0 ∨ 0 < n) ∧ r.sz = sz ∧ r.ro = false ∧ off + n * sz ≤ r.cs.length ∧ new.length = m * sz ∧ new.all n5 = true then some (.int .i64 (min m n : Nat), ⟨upd o k (.row { r with cs := r7 r.cs off (new.take (min m n * sz)) }), nx⟩) else none
@[go_sem] theorem cm7 (k off n sz m new o nx e g pl cs) : aE1 k off n sz m new o nx ⟨e, sz, g, false, pl, cs⟩ = if (off = 0 ∨ 0 < n) ∧ off + n * sz ≤ cs.length ∧ new.length = m * sz ∧ new.all n5 = true then some (.int .i64 (min m n : Nat), ⟨upd o k (.row ⟨e, sz, g, false, pl, r7 cs off (new.take (min m n * sz))⟩), nx⟩) else none := by
 unfold aE1; simp
theorem aE2 (h : (E7 P t).bind (l7 P) = some s) (k g off n x o nx) : Q0 P t (.ref k g off n) x ⟨o, nx⟩ = (D0 o x).bind fun q => (N0 (o k) g).bind (aE1 k off n s q.1 q.2 o nx) := by
 unfold Q0
 simp only [h]
 cases D0 o x with
 | none => rfl
 | some q =>
  simp only [Option.bind_some, X9]
  cases N0 (o k) g <;> rfl
theorem aR5 (hz : F6 P t = some z) (hu : P.underlying t = some (.array n e)) (hs : l7 P e = some s) (xs) : C9 P t xs = (x6 (fun i => some (i * s, s)) z xs).map .agg := by
 unfold C9; simp only [hz, hu, hs]
end
@[go_sem] theorem bS3 (a) : A0 a [] = some [] := rfl
def cm8 (i : Nat) (x : Option AV) (xs : Option (List (Nat × AV))) : Option (List (Nat × AV)) := match x, xs with | some v, some vs => some ((i, v) :: vs) | _, _ => none
@[go_sem] theorem cg8 (i v vs) : cm8 i (some v) (some vs) = some ((i, v) :: vs) := rfl
@[go_sem] theorem bM3 (a i x ps) : A0 a ((i, x) :: ps) = cm8 i (opd a x) (A0 a ps) := rfl
@[go_sem] theorem cm9 (place cells) : x6 place cells [] = some cells := rfl
def bS4 (p : Option (Nat × Nat)) (cells vs : List AV) : Option (List AV) := match p with
 | none => none
 | some (off, size) => if vs.length = size ∧ off + size ≤ cells.length ∧ vs.all n5 = true then some (r7 cells off vs) else none
@[go_sem] theorem cg9 (place cells i v rest) : x6 place cells ((i, v) :: rest) = (bS4 (place i) cells v.cells).bind fun cs => x6 place cs rest := by
 simp only [x6, bS4]
 cases place i with
 | none => rfl
 | some q => obtain ⟨off, size⟩ := q; dsimp only; split <;> rfl
@[go_sem] theorem ch0 (off size cells vs) : bS4 (some (off, size)) cells vs = if vs.length = size ∧ off + size ≤ cells.length ∧ vs.all n5 = true then some (r7 cells off vs) else none := rfl
@[go_sem] theorem ch1 (k off n cs o nx e s g pl rs) : bh5 k off n cs o nx ⟨e, s, g, false, pl, rs⟩ = if cs.length = n ∧ cs.all n5 = true ∧ off + n ≤ rs.length then some ⟨upd o k (.row ⟨e, s, g, false, pl, r7 rs off cs⟩), nx⟩ else none := by
 unfold bh5; simp
@[go_sem] theorem bS5 (rs cs) : r7 rs 0 cs = cs ++ rs.drop cs.length := by simp [r7]
@[go_sem] theorem bS6 (x rs off cs) : r7 (x :: rs) (off + 1) cs = x :: r7 rs off cs := by
 unfold r7
 rw [show off + 1 + cs.length = (off + cs.length) + 1 by omega]
 rfl
@[go_sem] theorem cE4 (z) : rep z 0 = [] := rfl
@[go_sem] theorem cE5 (z n) : rep z (n + 1) = z ++ rep z n := rfl
theorem ax6 (x n) : rep [x] n = List.replicate n x := by
 induction n with
 | zero => rfl
 | succ n ih => simp [rep, ih, List.replicate_succ]
theorem by4 (z n) : rep z n = (List.replicate n z).flatten := by
 induction n with
 | zero => rfl
 | succ n ih => simp [rep, ih, List.replicate_succ]
@[go_sem] theorem cn0 (o) : D0 o .nil = some (0, []) := rfl
@[go_sem] theorem cE6 (o n cs) : D0 o (.sl n cs) = some (n, cs) := rfl
@[go_sem] theorem cn1 (o x) : D0 o (.str x) = some (x.length, x.map fun b => .int .u8 b.toNat) := rfl
@[go_sem] theorem cn2 (o k g off n) : D0 o (.ref k g off n) = (N0 (o k) g).map fun r => (n, (r.cs.drop off).take (n * r.sz)) := by
 simp only [D0, y6, X9]; cases N0 (o k) g <;> rfl
@[go_sem] theorem cE7 (P t k x y) : G3 P .add t (.int k x) (.int k y) = some (.int k (k.wrap (x + y))) := by simp [G3, aI3]
@[go_sem] theorem cE8 (P t k x y) : G3 P .sub t (.int k x) (.int k y) = some (.int k (k.wrap (x - y))) := by simp [G3, aI3]
@[go_sem] theorem cE9 (P t k x y) : G3 P .mul t (.int k x) (.int k y) = some (.int k (k.wrap (x * y))) := by simp [G3, aI3]
@[go_sem] theorem cF0 (P t k x y) : G3 P .quo t (.int k x) (.int k y) = if y = 0 then none else some (.int k (k.wrap (x.tdiv y))) := by simp [G3, aI3]
@[go_sem] theorem cF1 (P t k x y) : G3 P .rem t (.int k x) (.int k y) = if y = 0 then none else some (.int k (x.tmod y)) := by simp [G3, aI3]
@[go_sem] theorem cF2 (P t k x y) : G3 P .eql t (.int k x) (.int k y) = some (.bool (decide (x = y))) := by simp [G3, aI3]; rfl
@[go_sem] theorem cF3 (P t k x y) : G3 P .neq t (.int k x) (.int k y) = some (.bool (decide (¬ x = y))) := by simp [G3, aI3, bne]; rfl
@[go_sem] theorem cF4 (P t k x y) : G3 P .lss t (.int k x) (.int k y) = some (.bool (decide (x < y))) := by simp [G3, aI3]
@[go_sem] theorem cF5 (P t k x y) : G3 P .leq t (.int k x) (.int k y) = some (.bool (decide (x ≤ y))) := by simp [G3, aI3]
@[go_sem] theorem cF6 (P t k x y) : G3 P .gtr t (.int k x) (.int k y) = some (.bool (decide (y < x))) := by simp [G3, aI3]
@[go_sem] theorem cF7 (P t k x y) : G3 P .geq t (.int k x) (.int k y) = some (.bool (decide (y ≤ x))) := by simp [G3, aI3]
@[go_sem] theorem cF8 (P t k k' x y) : G3 P .shl t (.int k x) (.int k' y) = af9 .shl k x y := by simp [G3]
@[go_sem] theorem cF9 (P t k k' x y) : G3 P .shr t (.int k x) (.int k' y) = af9 .shr k x y := by simp [G3]
@[go_sem] theorem cG0 (P t k x y) : G3 P .and t (.int k x) (.int k y) = aj4 .and k x y := by simp [G3, aI3]
@[go_sem] theorem cN2 (P t k x y) : G3 P .or t (.int k x) (.int k y) = aj4 .or k x y := by simp [G3, aI3]
theorem by5 {P : Program} {t : TypeId} (h : ac3 (P.underlying t) = true) (x y) : G3 P .eql t (.bool x) (.bool y) = some (.bool (x == y)) := by simp [G3, h]
theorem by6 {P : Program} {t : TypeId} (h : ac3 (P.underlying t) = true) (x y) : G3 P .neq t (.bool x) (.bool y) = some (.bool (!(x == y))) := by simp [G3, h]
@[go_sem] theorem cn3 (P t x y) : G3 P .add t (.str x) (.str y) = if x.length + y.length ≤ 9223372036854775807 then some (.str (x ++ y)) else none := by simp [G3, ce4]
@[go_sem] theorem cn4 (P t x y) : G3 P .eql t (.str x) (.str y) = some (.bool (x == y)) := by simp [G3, ce4]
@[go_sem] theorem cn5 (P t x y) : G3 P .neq t (.str x) (.str y) = some (.bool (!(x == y))) := by simp [G3, ce4]
@[go_sem] theorem cN3 (x) : aUn .not (.bool x) = some (.bool (!x)) := rfl
@[go_sem] theorem cN4 (k n) : aUn .neg (.int k n) = some (.int k (k.wrap (0 - n))) := rfl
def cvI (s d : Option TypeDesc) (n : Int) (o : Ob) (nx : Nat) : Option (AV × AH) := match s, d with | some _, some (.int k) => some (.int k (k.wrap n), ⟨o, nx⟩) | _, _ => none
@[go_sem] theorem cG1 (s k n o nx) : cvI (some s) (some (.int k)) n o nx = some (.int k (k.wrap n), ⟨o, nx⟩) := rfl
theorem r9 {P : Program} {s d : TypeId} {k : IntKind} {td : TypeDesc} (hs : P.underlying s = some td) (hd : P.underlying d = some (.int k)) (tg k' n o nx) : d7 P tg s d (.int k' n) ⟨o, nx⟩ = some (.int k (k.wrap n), ⟨o, nx⟩) := by
 unfold d7; simp only [hs, hd]
@[go_sem] theorem ch2 (k x y) : af9 .shr k x y = if y < 0 then none else some (.int k (x.fdiv (2 ^ (min y.toNat k.bits)))) := rfl
@[go_sem] theorem ch3 (k x y) : af9 .shl k x y = if y < 0 then none else some (.int k (k.wrap (x * 2 ^ (min y.toNat k.bits)))) := rfl
def cN5 (k : IntKind) (x y : Int) : Int := k.wrap (BitVec.ofInt k.bits x &&& BitVec.ofInt k.bits y).toNat
def orI (k : IntKind) (x y : Int) : Int := k.wrap (BitVec.ofInt k.bits x ||| BitVec.ofInt k.bits y).toNat
@[go_sem] theorem cn6 (k x y) : aj4 .and k x y = some (.int k (cN5 k x y)) := rfl
@[go_sem] theorem cG2 (k x y) : aj4 .or k x y = some (.int k (orI k x y)) := rfl
@[go_sem] theorem cG3 : IntKind.i64.bits = 64 := rfl
@[go_sem] theorem cG4 : IntKind.u64.bits = 64 := rfl
@[go_sem] theorem cN6 : IntKind.u8.bits = 8 := rfl
def cI (l : List Int) : List AV := l.map (AV.int .i64)
def cB (l : List Bool) : List AV := l.map AV.bool
abbrev slI (l : List Int) : AV := .sl l.length (cI l)
abbrev slB (l : List Bool) : AV := .sl l.length (cB l)
@[go_sem] theorem cY7 : cI [] = [] := rfl
@[go_sem] theorem cY8 : cB [] = [] := rfl
@[go_sem] theorem f8 (l) : (cI l).length = l.length := by simp [cI]
@[go_sem] theorem D3 (l) : (cB l).length = l.length := by simp [cB]
@[go_sem] theorem ar1 (l) : (cI l).all n5 = true := by simp [cI, List.all_eq_true, n5]
@[go_sem] theorem dl5 (l) : (cB l).all n5 = true := by simp [cB, List.all_eq_true, n5]
theorem aa1 (x y) : cI (x ++ y) = cI x ++ cI y := by simp [cI]
theorem au4 (x y) : cB (x ++ y) = cB x ++ cB y := by simp [cB]
theorem aK8 (l n) : (cI l).take n = cI (l.take n) := by simp [cI, List.map_take]
theorem bh7 (l n) : (cI l).drop n = cI (l.drop n) := by simp [cI, List.map_drop]
theorem ad8 {cs : List AV} {i s : Nat} (h : i < cs.length) : H6 false s (cs.drop i) = some (cs[i]'h) := by
 rw [List.drop_eq_getElem_cons h]; rfl
theorem I0 {l : List Int} {i s : Nat} (h : i < l.length) : H6 false s ((cI l).drop i) = some (.int .i64 (l.getD i 0)) := by
 rw [ad8 (by simpa [cI] using h)]; simp [cI, List.getD, h]
theorem W9 {l : List Bool} {i s : Nat} (h : i < l.length) : H6 false s ((cB l).drop i) = some (.bool (l.getD i false)) := by
 rw [ad8 (by simpa [cB] using h)]; simp [cB, List.getD, h]
theorem aa2 (cs : List AV) (off : Nat) (x : AV) (h : off < cs.length) : r7 cs off [x] = cs.set off x := by
 unfold r7
 rw [List.set_eq_take_append_cons_drop, if_pos h]; simp
theorem au5 (l : List Int) (i x) (h : i < l.length) : r7 (cI l) i [.int .i64 x] = cI (l.set i x) := by
 rw [aa2 _ _ _ (by simpa [cI] using h)]; simp [cI, List.map_set]
theorem cn7 (l : List Bool) (i x) (h : i < l.length) : r7 (cB l) i [.bool x] = cB (l.set i x) := by
 rw [aa2 _ _ _ (by simpa [cB] using h)]; simp [cB, List.map_set]
theorem am9 (n) : rep [AV.int .i64 0] n = cI (List.replicate n 0) := by rw [ax6]; simp [cI]
theorem aR6 (n) : rep [AV.bool false] n = cB (List.replicate n false) := by rw [ax6]; simp [cB]
@[go_sem] theorem V6 (o d k n) : view o d (.int k n) = .int k n := by cases d <;> rfl
@[go_sem] theorem bh8 (o d b) : view o d (.bool b) = .bool b := by cases d <;> rfl
@[go_sem] theorem cG5 (o d b) : view o d (.str b) = .str b := by cases d <;> rfl
@[go_sem] theorem cG6 (o d) : view o d .nil = .sl 0 [] := by cases d <;> rfl
@[go_sem] theorem bh9 (o d n cs) : view o d (.sl n cs) = .sl n cs := by cases d <;> rfl
@[go_sem] theorem cn8 (o d cs) : view o d (.fptr cs) = .fptr cs := by cases d <;> rfl
@[go_sem] theorem cN7 (o d k) : view o d (.mp k) = .und := by cases d <;> rfl
@[go_sem] theorem cG7 (o d cs) : view o (d + 1) (.agg cs) = .agg (cs.map (view o d)) := rfl
@[go_sem] theorem cG8 (o d cs) : view o (d + 1) (.tup cs) = .tup (cs.map (view o d)) := rfl
def bS7 (o : Ob) (d off n : Nat) (r : Option Row) : AV := match r with
 | some r => if off + n * r.sz ≤ r.cs.length then .sl n (((r.cs.drop off).take (n * r.sz)).map (view o d)) else .und
 | none => .und
@[go_sem] theorem au6 (o d off n r) : bS7 o d off n (some r) = if off + n * r.sz ≤ r.cs.length then .sl n (((r.cs.drop off).take (n * r.sz)).map (view o d)) else .und := rfl
@[go_sem] theorem aR7 (o d k g off n) : view o (d + 1) (.ref k g off n) = bS7 o d off n (N0 (o k) g) := by
 unfold bS7; simp only [view]; rw [X9]; cases N0 (o k) g <;> rfl
def bS8 (o : Ob) (d off : Nat) (r : Option Row) : AV := match r with
 | some r => .fptr ((r.cs.drop off).map (view o d))
 | none => .und
@[go_sem] theorem ch4 (o d off r) : bS8 o d off (some r) = .fptr ((r.cs.drop off).map (view o d)) := rfl
@[go_sem] theorem cG9 (o d k g off) : view o (d + 1) (.ptr k g off) = bS8 o d off (N0 (o k) g) := by
 unfold bS8; simp only [view]; rw [X9]; cases N0 (o k) g <;> rfl
@[go_sem] theorem cn9 : n6 = 1012 := rfl
@[go_sem] theorem O6 (o d l) : (cI l).map (view o d) = cI l := by simp [cI, Function.comp_def, V6]
@[go_sem] theorem aK9 (o d l) : (cB l).map (view o d) = cB l := by simp [cB, Function.comp_def, bh8]
attribute [go_sem] List.map_cons List.map_nil List.map_append List.length_append List.all_append List.flatMap_append flat flat.flats
def by7 (m : Mode) (E : Env) (cp : F7) (cr : q7) (g : FuncId) (as_ : List AV) (o : Ob) (nx : Nat) : Option (AV × AH) := match m with
 | .pure sc => (cp g (as_.map (view o n6))).bind fun r => B1 sc as_ r ⟨o, nx⟩
 | .ext sc => (E.ext g (as_.map (view o n6))).bind fun r => B1 sc as_ r ⟨o, nx⟩
 | .raw fz => (cr g as_ ⟨o, nx⟩).map fun p => p4 fz p.1 p.2
@[go_sem] theorem cH0 (E cp cr g fs cs as_ o nx) : ah9 E cp cr (.fn (.func g) fs cs) as_ ⟨o, nx⟩ = by7 (E.mode g) E cp cr g (fs ++ as_ ++ cs) o nx := by
 unfold ah9 by7; rfl
@[go_sem] theorem co0 (E cp cr g sc as_ o nx) : by7 (.ext sc) E cp cr g as_ o nx = (E.ext g (as_.map (view o n6))).bind fun r => B1 sc as_ r ⟨o, nx⟩ := rfl
@[go_sem] theorem co1 (E cp cr g fz as_ o nx) : by7 (.raw fz) E cp cr g as_ o nx = (cr g as_ ⟨o, nx⟩).map fun p => p4 fz p.1 p.2 := rfl
@[go_sem] theorem bM4 (as_ r H) : B1 true as_ r H = if flat r then some (r, H) else none := rfl
@[go_sem] theorem by8 (as_ r o nx) : B1 false as_ r ⟨o, nx⟩ = some (r, ⟨v6 (as_.flatMap (a8 o n6)) o, nx⟩) := rfl
theorem P5 {ts : List Tag} {o : Ob} {t : Tag} (h : t ∉ ts) : v6 ts o t = o t := by
 unfold v6
 cases o t with
 | none => rfl
 | some x =>
  cases x with
  | row r => simp [h]
  | map es => rfl
@[go_sem] theorem ch5 (o) : v6 [] o = o := by funext t; exact P5 (by simp)
@[go_sem] theorem V7 (o d k n) : a8 o d (.int k n) = [] := by cases d <;> rfl
@[go_sem] theorem bi0 (o d b) : a8 o d (.bool b) = [] := by cases d <;> rfl
@[go_sem] theorem cH1 (o d b) : a8 o d (.str b) = [] := by cases d <;> rfl
@[go_sem] theorem cH2 (o d) : a8 o d .nil = [] := by cases d <;> rfl
@[go_sem] theorem bi1 (o d n cs) : a8 o d (.sl n cs) = [] := by cases d <;> rfl
@[go_sem] theorem co2 (o d cs) : a8 o d (.fptr cs) = [] := by cases d <;> rfl
@[go_sem] theorem cN8 (o d k) : a8 o d (.mp k) = [] := by cases d <;> rfl
@[go_sem] theorem cH3 (o d cs) : a8 o (d + 1) (.agg cs) = cs.flatMap (a8 o d) := rfl
@[go_sem] theorem aL0 (o d l) : (cI l).flatMap (a8 o d) = [] := by simp [cI, List.flatMap_eq_nil_iff, V7]
@[go_sem] theorem ax7 (o d l) : (cB l).flatMap (a8 o d) = [] := by
 induction l with
 | nil => rfl
 | cons b l ih => simpa [cB, bi0] using ih
def bS9 (o : Ob) (d : Nat) (k : Tag) (off n : Nat) (r : Option Row) : List Tag := match r with
 | some r => k :: (((r.cs.drop off).take (n * r.sz)).flatMap (a8 o d))
 | none => [k]
@[go_sem] theorem ad9 (o d k off n r) : bS9 o d k off n (some r) = k :: (((r.cs.drop off).take (n * r.sz)).flatMap (a8 o d)) := rfl
@[go_sem] theorem ax8 (o d k g off n) : a8 o (d + 1) (.ref k g off n) = bS9 o d k off n (N0 (o k) g) := by
 unfold bS9; simp only [a8]; rw [X9]; cases N0 (o k) g <;> rfl
def bT0 (o : Ob) (d : Nat) (k : Tag) (off : Nat) (r : Option Row) : List Tag := match r with
 | some r => k :: ((r.cs.drop off).flatMap (a8 o d))
 | none => [k]
@[go_sem] theorem ch6 (o d k off r) : bT0 o d k off (some r) = k :: ((r.cs.drop off).flatMap (a8 o d)) := rfl
@[go_sem] theorem cH4 (o d k g off) : a8 o (d + 1) (.ptr k g off) = bT0 o d k off (N0 (o k) g) := by
 unfold bT0; simp only [a8]; rw [X9]; cases N0 (o k) g <;> rfl
attribute [go_sem] List.flatMap_cons List.flatMap_nil
def aE3 (b : Bool) (x : Option AObj) : Option AObj := match b with | true => x | false => match x with | some (.row r) => some (.row { r with ro := true }) | x => x
@[go_sem] theorem bT1 (x) : aE3 true x = x := rfl
@[go_sem] theorem ch7 (e s g ro pl cs) : aE3 false (some (.row ⟨e, s, g, ro, pl, cs⟩)) = some (.row ⟨e, s, g, true, pl, cs⟩) := rfl
def nin (t : Tag) (l : List Tag) : Bool := !l.contains t
@[go_sem] theorem ch8 (ts o i j) : v6 ts o (i, j) = aE3 (nin (i, j) ts) (o (i, j)) := by
 unfold v6 aE3 nin
 cases o (i, j) with
 | none => cases ts.contains (i, j) <;> rfl
 | some x =>
  cases x with
  | row r => cases h : ts.contains (i, j) <;> simp [h]
  | map es => cases ts.contains (i, j) <;> rfl
@[go_sem] theorem ch9 (i) : F8 [] i = false := rfl
@[go_sem] theorem bT2 (a b l i) : F8 ((a, b) :: l) i = (decide (a = i) || decide (b = i) || F8 l i) := by
 have h : ∀ x y, Nat.beq x y = decide (x = y) := fun x y => by rw [Bool.eq_iff_iff]; simp [Nat.beq_eq_true_eq]
 simp only [F8, h]
@[go_sem] theorem ci0 {α : Type} (x y : α) : (bif true then x else y) = x := rfl
@[go_sem] theorem bT3 {α : Type} (x y : α) : (bif false then x else y) = y := rfl
section
variable (E : Env) (st : Nat) (ops : Array Oper) (d : Option Tmp) (ty : TypeId) (p : String) (af : Array Edge) (a : n9) (H : AH)
def by9 (st : Nat) (d : Option Tmp) : List Tag := match d with | some d => [(st, d)] | none => []
@[go_sem] theorem co3 (st d) : by9 st (some d) = [(st, d)] := rfl
@[go_sem] theorem co4 (st) : by9 st none = [] := rfl
@[go_sem] theorem cN9 (t x) : y7 E st ops ⟨d, .load t x, ty, p, af, none⟩ a H = ⟨O9 (opd a x), [], false⟩ := rfl
@[go_sem] theorem cH5 (t x y) : y7 E st ops ⟨d, .store t x y, ty, p, af, none⟩ a H = ⟨[], O9 (opd a x), false⟩ := rfl
@[go_sem] theorem cH6 (t) : y7 E st ops ⟨d, .alloc t, ty, p, af, none⟩ a H = ⟨[], by9 st d, false⟩ := rfl
@[go_sem] theorem cY9 (t x) : y7 E st ops ⟨d, .box t x, ty, p, af, none⟩ a H = ⟨[], by9 st d, false⟩ := rfl
@[go_sem] theorem bz0 (t n ps) : y7 E st ops ⟨d, .buildSlice t n ps, ty, p, af, none⟩ a H = ⟨[], by9 st d, false⟩ := rfl
@[go_sem] theorem bM5 (t x y) : y7 E st ops ⟨d, .makeSlice t x y, ty, p, af, none⟩ a H = ⟨[], by9 st d, false⟩ := rfl
@[go_sem] theorem ci1 (s t x) : y7 E st ops ⟨d, .convert s t x, ty, p, af, none⟩ a H = ⟨O9 (opd a x), by9 st d, false⟩ := rfl
@[go_sem] theorem co5 (x y ts) : y7 E st ops ⟨d, .call ⟨.builtin .append, #[x, y], ts⟩, ty, p, af, none⟩ a H = ⟨O9 (opd a y), by9 st d ++ O9 (opd a x), false⟩ := rfl
@[go_sem] theorem cO0 (x y ts) : y7 E st ops ⟨d, .call ⟨.builtin .copy, #[x, y], ts⟩, ty, p, af, none⟩ a H = ⟨O9 (opd a y), O9 (opd a x), false⟩ := rfl
@[go_sem] theorem cZ0 (x ts) : y7 E st ops ⟨d, .call ⟨.builtin .len, #[x], ts⟩, ty, p, af, none⟩ a H = ⟨O9 (opd a x) ++ [], [], false⟩ := rfl
def ftF (E : Env) (fv : Option AV) (vs : List AV) (o : Ob) (nx : Nat) : FP := match fv with
 | some (.fn (.func g) first captured) =>
  let ts := (first ++ vs ++ captured).flatMap (a8 o n6)
  match E.mode g with
  | .pure true => ⟨ts, [], false⟩
  | .ext true => ⟨ts, [], false⟩
  | .pure false => ⟨ts, ts, false⟩
  | .ext false => ⟨ts, ts, false⟩
  | .raw z => ⟨[], bv6 z g nx, true⟩
 | _ => ⟨[], [], true⟩
@[go_sem] theorem cO1 (f xs ts) : y7 E st ops ⟨d, .call ⟨.value f, xs, ts⟩, ty, p, af, none⟩ a H = ftF E (opd a f) (xs.toList.filterMap (opd a)) H.o H.nx := rfl
def ftM (m : Mode) (ts : List Tag) (g : FuncId) (nx : Nat) : FP := match m with
 | .pure true => ⟨ts, [], false⟩
 | .ext true => ⟨ts, [], false⟩
 | .pure false => ⟨ts, ts, false⟩
 | .ext false => ⟨ts, ts, false⟩
 | .raw z => ⟨[], bv6 z g nx, true⟩
@[go_sem] theorem cZ1 (E : Env) (g f c vs o nx) : ftF E (some (.fn (.func g) f c)) vs o nx = ftM (E.mode g) ((f ++ vs ++ c).flatMap (a8 o n6)) g nx := rfl
@[go_sem] theorem cH7 (ts g nx) : ftM (.ext true) ts g nx = ⟨ts, [], false⟩ := rfl
@[go_sem] theorem co6 (ts g nx) : ftM (.ext false) ts g nx = ⟨ts, ts, false⟩ := rfl
@[go_sem] theorem cO2 (z ts g nx) : ftM (.raw z) ts g nx = ⟨[], bv6 z g nx, true⟩ := rfl
@[go_sem] theorem ci2 (g n) : bv6 false g n = if aB0 g = true then [(n, 0)] else [] := by
 unfold bv6; simp
attribute [go_sem] aB0
@[go_sem] theorem co7 (g n) : bv6 true g n = [] := rfl
@[go_sem] theorem cH8 {i n : Nat} (j m) (h : i < n) : below (i, j) (n, m) = true := by unfold below; exact decide_eq_true h
end
@[go_sem] theorem co8 (v) : O9 (some v) = y0 v := rfl
attribute [go_sem] y0 FP.none_ List.filterMap_cons List.filterMap_nil
@[go_sem] theorem cO3 (t) : nin t [] = true := rfl
@[go_sem] theorem cH9 (i j k m l) : nin (i, j) ((k, m) :: l) = if j = m then (if i = k then false else nin (i, j) l) else nin (i, j) l := by
 unfold nin
 by_cases h1 : j = m <;> by_cases h2 : i = k <;> simp [h1, h2]
@[go_sem] theorem cO4 (r w r' w') : aA7 ⟨r, w, false⟩ ⟨r', w', false⟩ = (w.all (fun t => nin t r' && nin t w') && w'.all (fun t => nin t r)) := rfl
@[go_sem] theorem co9 (r w r' w') : aA7 ⟨r, w, true⟩ ⟨r', w', false⟩ = (w'.isEmpty && r'.all fun t => w.any (below t)) := rfl
@[go_sem] theorem cp0 (r w r' w') : aA7 ⟨r, w, false⟩ ⟨r', w', true⟩ = (w.isEmpty && r.all fun t => w'.any (below t)) := rfl
def cp1 (x y : Option FP) : Bool := match x, y with | some x, some y => aA7 x y | _, _ => false
@[go_sem] theorem ci3 (x y) : cp1 (some x) (some y) = aA7 x y := rfl
@[go_sem] theorem cp2 (fs) : I3 fs [] = true := rfl
@[go_sem] theorem ci4 (fs i j l) : I3 fs ((i, j) :: l) = (cp1 fs[i]? fs[j]? && I3 fs l) := rfl
attribute [go_sem] List.isEmpty_nil List.isEmpty_cons List.any_cons List.any_nil List.all_cons List.all_nil Bool.or_true Bool.or_false Bool.true_or Bool.and_true Bool.true_and
def an0 (x : Option AObj) : Option (List (AV × AV)) := match x with | some (.map es) => some es | _ => none
@[go_sem] theorem ci5 (es) : an0 (some (.map es)) = some es := rfl
def lkV (ok : Bool) (z : AV) (r : Option AV) : AV := match ok, r with
 | true, some v => .tup [v, .bool true]
 | true, none => .tup [z, .bool false]
 | false, some v => v
 | false, none => z
@[go_sem] theorem cZ2 (z v) : lkV true z (some v) = .tup [v, .bool true] := rfl
@[go_sem] theorem cZ3 (z) : lkV true z none = .tup [z, .bool false] := rfl
@[go_sem] theorem cZ4 (z v) : lkV false z (some v) = v := rfl
@[go_sem] theorem cZ5 (z) : lkV false z none = z := rfl
theorem bT4 {P : Program} {t kt et : TypeId} {z k : AV} (h : P.underlying t = some (.map kt et)) (hz : aI7 P et = some z) (hk : aI6 P kt k = true) (m ok o nx) : G5 P t (.mp m) k ok ⟨o, nx⟩ = (an0 (o m)).bind fun es => (G4 k es).map (lkV ok z) := by
 unfold G5 an0
 simp only [h, hz, hk, if_true, aw3]
 cases o m with
 | none => rfl
 | some x =>
  cases x with
  | row r => rfl
  | map es =>
   dsimp only [Option.bind_some]
   cases G4 k es with
   | none => rfl
   | some r => cases r <;> cases ok <;> rfl
def bd7 (tg : Tag) (k v : AV) (o : Ob) (nx : Nat) (es : List (AV × AV)) : Option AH := (G4 k es).map fun _ => ⟨upd o tg (.map (aA6 k v es)), nx⟩
theorem bT5 {P : Program} {t kt et : TypeId} {k : AV} (h : P.underlying t = some (.map kt et)) (hk : aI6 P kt k = true) (m v o nx) : l6 P t (.mp m) k v ⟨o, nx⟩ = (an0 (o m)).bind (bd7 m k v o nx) := by
 unfold l6 an0 bd7
 simp only [h, hk, if_true]
 cases o m with
 | none => rfl
 | some x =>
  cases x with
  | row r => rfl
  | map es =>
   dsimp only [Option.bind_some]
   cases G4 k es <;> rfl
theorem an1 {k : AV} {es : List (AV × AV)} {r : Option AV} (h : G4 k es = some r) (tg v o nx) : bd7 tg k v o nx es = some ⟨upd o tg (.map (aA6 k v es)), nx⟩ := by unfold bd7; rw [h]; rfl
@[go_sem] theorem ci6 (b es) : aE3 b (some (.map es)) = some (.map es) := by cases b <;> rfl
section
variable {E : Env} {cr : q7} (st : Nat) (ops : Array Oper) (ty : TypeId) (p : String) (af : Array Edge) (l : List Oper) (a : n9) (o : Ob) (nx : Nat) (Q : m4) (H : AH)
@[go_sem] theorem cp3 (d t) : WS E cr st ops (⟨some d, .makeMap t none, ty, p, af, none⟩ :: l) a o nx Q = WS E cr st ops l (put a d (.mp (st, d))) (upd o (st, d) (.map [])) nx Q := by
 rw [D9]; rfl
@[go_sem] theorem cI0 (d t m k ok) : WS E cr st ops (⟨some d, .lookup t m k ok, ty, p, af, none⟩ :: l) a o nx Q = wO ((opd a m).bind fun mv => (opd a k).bind fun kv => G5 E.P t mv kv ok ⟨o, nx⟩) (kV E cr st ops l a d o nx Q) := by
 rw [D9]; unfold wO; simp only [f7]
 cases opd a m with
 | none => rfl
 | some v =>
  simp only [Option.bind_some]
  cases opd a k with
  | none => rfl
  | some u => simp only [Option.bind_some]; cases G5 E.P t v u ok ⟨o, nx⟩ <;> rfl
@[go_sem] theorem bT6 (t m k x) : WS E cr st ops (⟨none, .mapUpdate t m k x, ty, p, af, none⟩ :: l) a o nx Q = wO ((opd a m).bind fun mv => (opd a k).bind fun kv => (opd a x).bind fun vv => l6 E.P t mv kv vv ⟨o, nx⟩) (kS E cr st ops l a Q) := by
 rw [D9]; unfold wO; simp only [f7]
 cases opd a m with
 | none => rfl
 | some v =>
  simp only [Option.bind_some]
  cases opd a k with
  | none => rfl
  | some u =>
   simp only [Option.bind_some]
   cases opd a x with
   | none => rfl
   | some y => simp only [Option.bind_some]; cases l6 E.P t v u y ⟨o, nx⟩ <;> rfl
@[go_sem] theorem ci7 (d t) : y7 E st ops ⟨d, .makeMap t none, ty, p, af, none⟩ a H = ⟨[], by9 st d, false⟩ := rfl
@[go_sem] theorem cp4 (d t m k ok) : y7 E st ops ⟨d, .lookup t m k ok, ty, p, af, none⟩ a H = ⟨O9 (opd a m), [], false⟩ := rfl
@[go_sem] theorem bM6 (d t m k x) : y7 E st ops ⟨d, .mapUpdate t m k x, ty, p, af, none⟩ a H = ⟨[], O9 (opd a m), false⟩ := rfl
end
end Go.Proofs.YtpmjpogcaglphaaDoor.A
