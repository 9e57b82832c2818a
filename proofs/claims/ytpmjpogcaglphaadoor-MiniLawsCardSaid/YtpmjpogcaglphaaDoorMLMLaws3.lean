/- A, part 28: what holds behind a run: rules, one an operation. -/
import Derived.IntWalk
import Derived.Test.YtpmjpogcaglphaaDoorMLMLaws2
set_option linter.unusedVariables false
set_option linter.unusedSimpArgs false
set_option linter.unnecessarySimpa false
namespace Go.Proofs.YtpmjpogcaglphaaDoor.A
open Go
abbrev Ob := Tag → Option AObj
abbrev l8 := Out → n8 → Ob → Nat → Prop
def wO {α : Type} (r : Option α) (K : α → Prop) : Prop := match r with | some x => K x | none => False
@[go_sem] theorem cF8 {α : Type} (x : α) (K : α → Prop) : wO (some x) K = K x := rfl
@[go_sem] theorem cF9 {α : Type} (K : α → Prop) : wO none K = False := rfl
section
variable (E : Env) (cr : q8) (k : Nat) (nz : Nat → Option (List (Nat × Nat)))
def WP (c : Code) (a : n8) (o : Ob) (nx : Nat) (Q : l8) : Prop :=
 match y4 E (fun _ _ => none) cr k nz none c a ⟨o, nx⟩ with
 | some (u, a', H') => Q u a' H'.o H'.nx
 | none => False
def ay5 (y : Code) (Q : l8) : l8 := fun u a o nx => match u with
 | .normal => WP E cr k nz y a o nx Q
 | u => Q u a o nx
def K5 (id : Nat) (Q : l8) : l8 := fun u a o nx => match u with
 | .exit id' => if id' = id then Q .normal a o nx else Q (.exit id') a o nx
 | u => Q u a o nx
def wIf (b : Bool) (x y : Code) (a : n8) (o : Ob) (nx : Nat) (Q : l8) : Prop := match b with | true => WP E cr k nz x a o nx Q | false => WP E cr k nz y a o nx Q
def wC (v : Option AV) (x y : Code) (a : n8) (o : Ob) (nx : Nat) (Q : l8) : Prop := match v with | some (.bool b) => wIf E cr k nz b x y a o nx Q | _ => False
def WS (st : Nat) (ops : Array Oper) (l : List Oper) (a : n8) (o : Ob) (nx : Nat) (Q : l8) : Prop :=
 match steps E (fun _ _ => none) cr st ops l a ⟨o, nx⟩ with
 | some (a', H') => Q .normal a' H'.o H'.nx
 | none => False
def WF (st : Nat) (ops : Array Oper) (prs : List (Nat × Nat)) (i : Nat) (l : List Oper) (fs : List FP) (a : n8) (o : Ob) (nx : Nat) (Q : l8) : Prop :=
 match X3 E (fun _ _ => none) cr st ops (G0 prs) i l a ⟨o, nx⟩ with
 | some (a', H', gs) => I0 (fs ++ gs) prs = true ∧ Q .normal a' H'.o H'.nx
 | none => False
end
section
variable {E : Env} {cr : q8} {k : Nat} {nz : Nat → Option (List (Nat × Nat))}
@[go_sem] theorem aF3 (y : Code) (Q : l8) (a o nx) : ay5 E cr k nz y Q .normal a o nx = WP E cr k nz y a o nx Q := rfl
@[go_sem] theorem cg5 (y : Code) (Q : l8) (a o nx) : ay5 E cr k nz y Q .ret a o nx = Q .ret a o nx := rfl
@[go_sem] theorem cb1 (y : Code) (Q : l8) (i a o nx) : ay5 E cr k nz y Q (.exit i) a o nx = Q (.exit i) a o nx := rfl
@[go_sem] theorem cb2 (y : Code) (Q : l8) (i a o nx) : ay5 E cr k nz y Q (.goto i) a o nx = Q (.goto i) a o nx := rfl
@[go_sem] theorem bz1 (id) (Q : l8) (a o nx) : K5 id Q .normal a o nx = Q .normal a o nx := rfl
@[go_sem] theorem cb3 (id) (Q : l8) (a o nx) : K5 id Q .ret a o nx = Q .ret a o nx := rfl
@[go_sem] theorem bP1 (id) (Q : l8) (l a o nx) : K5 id Q (.goto l) a o nx = Q (.goto l) a o nx := rfl
@[go_sem] theorem bP2 (id id') (Q : l8) (a o nx) : K5 id Q (.exit id') a o nx = if id' = id then Q .normal a o nx else Q (.exit id') a o nx := rfl
theorem T1 {c : Code} {a : n8} {o : Ob} {nx : Nat} {Q Q' : l8} (h : WP E cr k nz c a o nx Q) (hq : ∀ u a o nx, Q u a o nx → Q' u a o nx) : WP E cr k nz c a o nx Q' := by
 unfold WP at h ⊢
 split at h
 ·exact hq _ _ _ _ h
 ·exact h.elim
@[go_sem] theorem cy2 (x y a o nx) (Q : l8) : wIf E cr k nz true x y a o nx Q = WP E cr k nz x a o nx Q := rfl
@[go_sem] theorem bj3 (x y a o nx) (Q : l8) : wIf E cr k nz false x y a o nx Q = WP E cr k nz y a o nx Q := rfl
@[go_sem] theorem cG0 (b x y a o nx) (Q : l8) : wIf E cr k nz (!b) x y a o nx Q = wIf E cr k nz b y x a o nx Q := by cases b <;> rfl
@[go_sem] theorem cb4 (p : Prop) [Decidable p] (x y a o nx) (Q : l8) : wIf E cr k nz (decide p) x y a o nx Q = wIf E cr k nz (if p then true else false) x y a o nx Q := by
 by_cases h : p <;> simp [h]
@[go_sem] theorem bP3 (b x y a o nx) (Q : l8) : wC E cr k nz (some (.bool b)) x y a o nx Q = wIf E cr k nz b x y a o nx Q := rfl
@[go_sem] theorem bP4 (a o nx) (Q : l8) : WP E cr k nz .skip a o nx Q = Q .normal a o nx := rfl
@[go_sem] theorem cT1 (a o nx) (Q : l8) : WP E cr k nz .ret a o nx Q = Q .ret a o nx := rfl
@[go_sem] theorem cG1 (i a o nx) (Q : l8) : WP E cr k nz (.exit i) a o nx Q = Q (.exit i) a o nx := rfl
@[go_sem] theorem cG2 (i a o nx) (Q : l8) : WP E cr k nz (.goto i) a o nx Q = Q (.goto i) a o nx := rfl
@[go_sem] theorem cy3 (i a o nx) (Q : l8) : WP E cr k nz (.label i) a o nx Q = Q .normal a o nx := rfl
@[go_sem] theorem cT2 (x y : Code) (a o nx) (Q : l8) : WP E cr k nz (.seq x y) a o nx Q = WP E cr k nz x a o nx (ay5 E cr k nz y Q) := by
 unfold WP
 simp only [y4]
 cases y4 E (fun _ _ => none) cr k nz none x a ⟨o, nx⟩ with
 | none => rfl
 | some p =>
  obtain ⟨u, a', H'⟩ := p
  cases u <;> rfl
@[go_sem] theorem cy4 (id : Nat) (c : Code) (a o nx) (Q : l8) : WP E cr k nz (.block id c) a o nx Q = WP E cr k nz c a o nx (K5 id Q) := by
 unfold WP
 simp only [y4]
 cases y4 E (fun _ _ => none) cr k nz none c a ⟨o, nx⟩ with
 | none => rfl
 | some p =>
  obtain ⟨u, a', H'⟩ := p
  cases u with
  | exit id' =>
   dsimp only [K5]
   by_cases h : id' = id <;> simp [h]
  | _ => rfl
@[go_sem] theorem bP5 (c : Operand) (x y : Code) (a o nx) (Q : l8) : WP E cr k nz (.cond c x y) a o nx Q = wC E cr k nz (opd a c) x y a o nx Q := by
 unfold wC wIf WP
 simp only [y4]
 cases opd a c with
 | none => rfl
 | some v => cases v with
  | bool b => cases b <;> rfl
  | _ => rfl
@[go_sem] theorem bj4 (id : Nat) (ops : List Oper) (a o nx) (Q : l8) : WP E cr k nz (.region id ⟨ops⟩ false) a o nx Q = WS E cr nx ⟨ops⟩ ops a o (nx + 1) Q := by
 unfold WP WS
 simp only [y4, ay4]
 cases steps E (fun _ _ => none) cr nx ⟨ops⟩ ops a ⟨o, nx + 1⟩ <;> rfl
def aS9 (E : Env) (cr : q8) (prs : Option (List (Nat × Nat))) (ops : List Oper) (a : n8) (o : Ob) (nx : Nat) (Q : l8) : Prop := match prs with | none => WS E cr nx ⟨ops⟩ ops a o (nx + 1) Q | some l => WF E cr nx ⟨ops⟩ l 0 ops [] a o (nx + 1) Q
@[go_sem] theorem bP6 (ops a o nx) (Q : l8) : aS9 E cr none ops a o nx Q = WS E cr nx ⟨ops⟩ ops a o (nx + 1) Q := rfl
@[go_sem] theorem bP7 (l ops a o nx) (Q : l8) : aS9 E cr (some l) ops a o nx Q = WF E cr nx ⟨ops⟩ l 0 ops [] a o (nx + 1) Q := rfl
@[go_sem] theorem bj5 (id : Nat) (ops : List Oper) (a o nx) (Q : l8) : WP E cr k nz (.region id ⟨ops⟩ true) a o nx Q = aS9 E cr (nz id) ops a o nx Q := by
 unfold WP aS9 WS WF
 simp only [y4, ay4]
 cases nz id with
 | none =>
  dsimp only
  cases steps E (fun _ _ => none) cr nx ⟨ops⟩ ops a ⟨o, nx + 1⟩ <;> rfl
 | some prs =>
  dsimp only
  cases X3 E (fun _ _ => none) cr nx ⟨ops⟩ (G0 prs) 0 ops a ⟨o, nx + 1⟩ with
  | none => rfl
  | some p =>
   obtain ⟨a', H', gs⟩ := p
   dsimp only
   rw [List.nil_append]
   cases I0 gs prs <;> simp
theorem an8 {c : Code} {Q : l8} (I : Nat → n8 → Ob → Nat → Prop) (step : ∀ m a o nx, I m a o nx → WP E cr k nz c a o nx (fun u a' o' nx' => match u with | .normal => ∃ m', m' < m ∧ I m' a' o' nx' | u => Q u a' o' nx')) :
  ∀ (n m : Nat), m < n → ∀ a o nx, I m a o nx → match bg0 (y4 E (fun _ _ => none) cr k nz none c) n a ⟨o, nx⟩ with | some (u, a', H') => Q u a' H'.o H'.nx | none => False
 | 0, m, h, _, _, _, _ => by omega
 | n + 1, m, h, a, o, nx, hI => by
  have hs := step m a o nx hI
  unfold WP at hs
  unfold bg0
  cases he : y4 E (fun _ _ => none) cr k nz none c a ⟨o, nx⟩ with
  | none => rw [he] at hs; exact hs.elim
  | some p =>
   obtain ⟨u, a', H'⟩ := p
   rw [he] at hs
   cases u with
   | normal =>
    obtain ⟨m', h1, h2⟩ := hs
    exact an8 I step n m' (by omega) a' H'.o H'.nx h2
   | _ => exact hs
def aF4 (I : Nat → n8 → Ob → Nat → Prop) (m : Nat) (Q : l8) : l8 := fun u a' o' nx' => match u with
 | .normal => ∃ m', m' < m ∧ I m' a' o' nx'
 | u => Q u a' o' nx'
@[go_sem] theorem bz2 (I m) (Q : l8) (a o nx) : aF4 I m Q .normal a o nx = ∃ m', m' < m ∧ I m' a o nx := rfl
@[go_sem] theorem cb5 (I m) (Q : l8) (a o nx) : aF4 I m Q .ret a o nx = Q .ret a o nx := rfl
@[go_sem] theorem bP8 (I m) (Q : l8) (i a o nx) : aF4 I m Q (.exit i) a o nx = Q (.exit i) a o nx := rfl
@[go_sem] theorem bP9 (I m) (Q : l8) (i a o nx) : aF4 I m Q (.goto i) a o nx = Q (.goto i) a o nx := rfl
theorem u2 {c : Code} {Q : l8} (I : Nat → n8 → Ob → Nat → Prop) (m : Nat) (hm : m < k) {a : n8} {o : Ob} {nx : Nat} (h0 : I m a o nx)
  (step : ∀ m a o nx, I m a o nx → WP E cr k nz c a o nx (aF4 I m Q)) : WP E cr k nz (.loop c) a o nx Q := by
 unfold WP
 simp only [y4]
 refine an8 I (fun m a o nx h => T1 (step m a o nx h) ?_) k m hm a o nx h0
 intro u a o nx h
 cases u <;> exact h
@[go_sem] theorem cg6 (st ops a o nx) (Q : l8) : WS E cr st ops [] a o nx Q = Q .normal a o nx := rfl
theorem ay6 (st ops x l a o nx) (Q : l8) : WS E cr st ops (x :: l) a o nx Q = wO (P8 E (fun _ _ => none) cr st ops x a ⟨o, nx⟩) (fun p => WS E cr st ops l p.1 p.2.o p.2.nx Q) := by
 unfold WS wO
 simp only [steps]
 cases P8 E (fun _ _ => none) cr st ops x a ⟨o, nx⟩ <;> rfl
theorem D7 (st ops d op ty p af l a o nx) (Q : l8) : WS E cr st ops (⟨d, op, ty, p, af, none⟩ :: l) a o nx Q = wO (f9 E (fun _ _ => none) cr st ⟨d, op, ty, p, af, none⟩ a ⟨o, nx⟩) (fun q => WS E cr st ops l (J7 a d q.1) q.2.o q.2.nx Q) := by
 rw [ay6]
 unfold wO
 simp only [P8, y9]
 cases f9 E (fun _ _ => none) cr st ⟨d, op, ty, p, af, none⟩ a ⟨o, nx⟩ <;> rfl
def bQ0 (E : Env) (cr : q8) (b : Bool) (st : Nat) (ops : Array Oper) (x : Oper) (l : List Oper) (a : n8) (o : Ob) (nx : Nat) (Q : l8) : Prop := match b with | true => WS E cr st ops (x :: l) a o nx Q | false => WS E cr st ops l (J7 a x.dst noV) o nx Q
def wG (E : Env) (cr : q8) (y : Option (Option Bool)) (want : Bool) (st : Nat) (ops : Array Oper) (x : Oper) (l : List Oper) (a : n8) (o : Ob) (nx : Nat) (Q : l8) : Prop := match y with | none => False | some none => WS E cr st ops l (J7 a x.dst noV) o nx Q | some (some b) => bQ0 E cr (b == want) st ops x l a o nx Q
@[go_sem] theorem cG3 (w st ops d op ty p af g l a o nx) (Q : l8) : wG E cr (some none) w st ops ⟨d, op, ty, p, af, g⟩ l a o nx Q = WS E cr st ops l (J7 a d noV) o nx Q := rfl
@[go_sem] theorem cG4 (b st ops x l a o nx) (Q : l8) : wG E cr (some (some b)) true st ops x l a o nx Q = bQ0 E cr b st ops x l a o nx Q := by cases b <;> rfl
@[go_sem] theorem cy5 (b st ops x l a o nx) (Q : l8) : wG E cr (some (some b)) false st ops x l a o nx Q = bQ0 E cr (!b) st ops x l a o nx Q := by cases b <;> rfl
@[go_sem] theorem cg7 (st ops x l a o nx) (Q : l8) : bQ0 E cr true st ops x l a o nx Q = WS E cr st ops (x :: l) a o nx Q := rfl
@[go_sem] theorem cb6 (st ops d op ty p af g l a o nx) (Q : l8) : bQ0 E cr false st ops ⟨d, op, ty, p, af, g⟩ l a o nx Q = WS E cr st ops l (J7 a d noV) o nx Q := rfl
@[go_sem] theorem bQ1 (p : Prop) [Decidable p] (st ops x l a o nx) (Q : l8) : bQ0 E cr (decide p) st ops x l a o nx Q = bQ0 E cr (if p then true else false) st ops x l a o nx Q := by
 by_cases h : p <;> simp [h]
@[go_sem] theorem cy6 (st ops d op ty p af j want l a o nx) (Q : l8) : WS E cr st ops (⟨d, op, ty, p, af, some (j, want)⟩ :: l) a o nx Q = wG E cr (C6 ops a j) want st ops ⟨d, op, ty, p, af, none⟩ l a o nx Q := by
 rw [ay6]
 unfold wG
 cases hy : C6 ops a j with
 | none => unfold P8 y9 wO; simp only [hy, Option.map_none]
 | some y =>
  cases y with
  | none => unfold P8 y9 wO; simp only [hy, Option.map_some]; rfl
  | some b =>
   have h1 : P8 E (fun _ _ => none) cr st ops ⟨d, op, ty, p, af, some (j, want)⟩ a ⟨o, nx⟩ = (match some (some b == some want) with | some true => (f9 E (fun _ _ => none) cr st ⟨d, op, ty, p, af, none⟩ a ⟨o, nx⟩).map fun p => (J7 a d p.1, p.2) | some false => some (J7 a d noV, ⟨o, nx⟩) | none => none) := by
    unfold P8 y9
    simp only [hy, Option.map_some]
    rfl
   have h2 : P8 E (fun _ _ => none) cr st ops ⟨d, op, ty, p, af, none⟩ a ⟨o, nx⟩ = (f9 E (fun _ _ => none) cr st ⟨d, op, ty, p, af, none⟩ a ⟨o, nx⟩).map fun p => (J7 a d p.1, p.2) := rfl
   cases b <;> cases want
   ·show wO _ _ = WS E cr st ops (_ :: l) a o nx Q
    rw [ay6, h2, h1]
    rfl
   ·rw [h1]; rfl
   ·rw [h1]; rfl
   ·show wO _ _ = WS E cr st ops (_ :: l) a o nx Q
    rw [ay6, h2, h1]
    rfl
def yv (v : AV) : Option (Option Bool) := match v with | .bool b => some (some b) | .und => none | .mp _ => none | _ => some none
@[go_sem] theorem cG5 (b : Bool) : yv (.bool b) = some (some b) := rfl
@[go_sem] theorem cT3 (l) : yv (.tup l) = some none := rfl
@[go_sem] theorem cT4 (k n) : yv (.int k n) = some none := rfl
def bQ2 (o : Option Oper) (a : n8) : Option (Option Bool) := match o with | some ⟨some d, _, _, _, _, _⟩ => yv (a d) | _ => some none
@[go_sem] theorem cb7 (d op ty p af g a) : bQ2 (some ⟨some d, op, ty, p, af, g⟩) a = yv (a d) := rfl
@[go_sem] theorem cb8 (ops : List Oper) (a : n8) (j : Nat) : C6 ⟨ops⟩ a j = bQ2 ops[j]? a := by
 unfold C6 bQ2
 rw [List.getElem?_toArray]
 cases ops[j]? with
 | none => rfl
 | some x =>
  obtain ⟨d, op, ty, p, af, g⟩ := x
  cases d with
  | none => rfl
  | some d => rfl
def bQ3 (E : Env) (cr : q8) (st : Nat) (ops : Array Oper) (prs : List (Nat × Nat)) (i : Nat) (l : List Oper) (fs : List FP) (Q : l8) : l8 := fun _ a o nx => WF E cr st ops prs i l fs a o nx Q
@[go_sem] theorem cy7 (st ops prs i l fs) (Q : l8) (u a o nx) : bQ3 E cr st ops prs i l fs Q u a o nx = WF E cr st ops prs i l fs a o nx Q := rfl
@[go_sem] theorem cG6 (st ops prs i x l fs a o nx) (Q : l8) : WF E cr st ops prs i (x :: l) fs a o nx Q = WS E cr st ops [x] a o nx (bQ3 E cr st ops prs (i + 1) l (fs ++ [bif G0 prs i then z8 E st ops x a ⟨o, nx⟩ else FP.none_]) Q) := by
 unfold WF WS bQ3 WF
 simp only [X3, steps]
 cases P8 E (fun _ _ => none) cr st ops x a ⟨o, nx⟩ with
 | none => rfl
 | some p =>
  obtain ⟨a', H'⟩ := p
  dsimp only
  cases X3 E (fun _ _ => none) cr st ops (G0 prs) (i + 1) l a' H' with
  | none => rfl
  | some q =>
   obtain ⟨a2, H2, gs⟩ := q
   dsimp only
   rw [List.append_assoc]
   cases G0 prs i <;> rfl
@[go_sem] theorem cT5 (st ops prs i fs a o nx) (Q : l8) : WF E cr st ops prs i [] fs a o nx Q = (I0 fs prs = true ∧ Q .normal a o nx) := by
 unfold WF
 simp only [X3, List.append_nil]
def kV (E : Env) (cr : q8) (st : Nat) (ops : Array Oper) (l : List Oper) (a : n8) (d : Nat) (o : Ob) (nx : Nat) (Q : l8) (v : AV) : Prop := WS E cr st ops l (put a d v) o nx Q
def kH (E : Env) (cr : q8) (st : Nat) (ops : Array Oper) (l : List Oper) (a : n8) (d : Option Nat) (Q : l8) (q : AV × AH) : Prop := WS E cr st ops l (J7 a d q.1) q.2.o q.2.nx Q
def kS (E : Env) (cr : q8) (st : Nat) (ops : Array Oper) (l : List Oper) (a : n8) (Q : l8) (H : AH) : Prop := WS E cr st ops l a H.o H.nx Q
def kA (E : Env) (cr : q8) (st : Nat) (ops : Array Oper) (l : List Oper) (a : n8) (d : Nat) (e : TypeId) (o : Ob) (nx : Nat) (Q : l8) (z : List AV) : Prop := WS E cr st ops l (put a d (.ptr (st, d) (st, d) 0)) (upd o (st, d) (.row ⟨e, 1, (st, d), false, true, z⟩)) nx Q
def aM2 (cs : List AV) : Option (List AV) := if cs.all n9 = true then some cs else none
@[go_sem] theorem cb9 (cs) : aM2 cs = if cs.all n9 = true then some cs else none := rfl
@[go_sem] theorem dg1 (st ops l a d o nx) (Q : l8) (v) : kV E cr st ops l a d o nx Q v = WS E cr st ops l (put a d v) o nx Q := rfl
@[go_sem] theorem cG7 (st ops l a d) (Q : l8) (v o nx) : kH E cr st ops l a d Q (v, ⟨o, nx⟩) = WS E cr st ops l (J7 a d v) o nx Q := rfl
@[go_sem] theorem dg2 (st ops l a) (Q : l8) (o nx) : kS E cr st ops l a Q ⟨o, nx⟩ = WS E cr st ops l a o nx Q := rfl
@[go_sem] theorem dg3 (st ops l a d e o nx) (Q : l8) (z) : kA E cr st ops l a d e o nx Q z = WS E cr st ops l (put a d (.ptr (st, d) (st, d) 0)) (upd o (st, d) (.row ⟨e, 1, (st, d), false, true, z⟩)) nx Q := rfl
section
variable (st : Nat) (ops : Array Oper) (ty : TypeId) (p : String) (af : Array Edge) (l : List Oper) (a : n8) (o : Ob) (nx : Nat) (Q : l8)
@[go_sem] theorem cT6 (d x) : WS E cr st ops (⟨some d, .move x, ty, p, af, none⟩ :: l) a o nx Q = wO (opd a x) (kV E cr st ops l a d o nx Q) := by
 rw [D7]; unfold wO; simp only [f9]; cases opd a x <;> rfl
@[go_sem] theorem cy8 (d x) : WS E cr st ops (⟨some d, .assign x, ty, p, af, none⟩ :: l) a o nx Q = wO (opd a x) (kV E cr st ops l a d o nx Q) := by
 rw [D7]; unfold wO; simp only [f9]; cases opd a x <;> rfl
def as0 (c x y : Option AV) : Option AV := match c with | some (.bool true) => x | some (.bool false) => y | _ => none
@[go_sem] theorem cc0 (x y) : as0 (some (.bool true)) x y = x := rfl
@[go_sem] theorem bQ4 (x y) : as0 (some (.bool false)) x y = y := rfl
@[go_sem] theorem bK7 (b : Bool) (x : Bool) : as0 (some (.bool b)) (some (.bool x)) (some (.bool false)) = some (.bool (b && x)) := by cases b <;> rfl
@[go_sem] theorem bQ5 (b : Bool) (x : Bool) : as0 (some (.bool b)) (some (.bool true)) (some (.bool x)) = some (.bool (b || x)) := by cases b <;> rfl
@[go_sem] theorem cc1 (p : Prop) [Decidable p] (y) : as0 (some (.bool (decide p))) (some noV) y = as0 (some (.bool (if p then true else false))) (some noV) y := by
 by_cases h : p <;> simp [h]
@[go_sem] theorem cc2 (p : Prop) [Decidable p] (y) : as0 (some (.bool (decide p))) y (some noV) = as0 (some (.bool (if p then true else false))) y (some noV) := by
 by_cases h : p <;> simp [h]
@[go_sem] theorem cG8 (p q : Prop) [Decidable p] [Decidable q] : (decide p && decide q) = decide (p ∧ q) := (Bool.decide_and p q).symm
@[go_sem] theorem cT7 (p q : Prop) [Decidable p] [Decidable q] : (decide p || decide q) = decide (p ∨ q) := (Bool.decide_or p q).symm
@[go_sem] theorem cG9 (p : Prop) [Decidable p] : (!decide p) = decide (¬ p) := decide_not.symm
@[go_sem] theorem cT8 (d c x y) : WS E cr st ops (⟨some d, .pick c x y, ty, p, af, none⟩ :: l) a o nx Q = wO (as0 (opd a c) (opd a x) (opd a y)) (kV E cr st ops l a d o nx Q) := by
 rw [D7]; unfold wO as0; simp only [f9]
 cases opd a c with
 | none => rfl
 | some v => cases v with
  | bool b =>
   cases b with
   | true => cases opd a x <;> rfl
   | false => cases opd a y <;> rfl
  | _ => rfl
@[go_sem] theorem cH0 (d e) : WS E cr st ops (⟨some d, .alloc e, ty, p, af, none⟩ :: l) a o nx Q = wO (F8 E.P e) (kA E cr st ops l a d e o nx Q) := by
 rw [D7]; unfold wO; simp only [f9]; cases F8 E.P e <;> rfl
@[go_sem] theorem dg4 (d e x) : WS E cr st ops (⟨some d, .box e x, ty, p, af, none⟩ :: l) a o nx Q = wO ((opd a x).bind fun v => aM2 v.cells) (kA E cr st ops l a d e o nx Q) := by
 rw [D7]; unfold wO; simp only [f9]
 cases opd a x with
 | none => rfl
 | some v =>
  dsimp only [Option.bind_some, aM2]
  cases h : v.cells.all n9 <;> rfl
@[go_sem] theorem cH1 (d t ps) : WS E cr st ops (⟨some d, .build t ps, ty, p, af, none⟩ :: l) a o nx Q = wO ((A4 a ps.toList).bind (D3 E.P t)) (kV E cr st ops l a d o nx Q) := by
 rw [D7]; unfold wO; simp only [f9]
 cases A4 a ps.toList with
 | none => rfl
 | some v => simp only [Option.bind_some]; cases D3 E.P t v <;> rfl
@[go_sem] theorem bK8 (d t n ps) : WS E cr st ops (⟨some d, .buildSlice t n ps, ty, p, af, none⟩ :: l) a o nx Q = wO ((A4 a ps.toList).bind fun qs => l7 E.P (st, d) t n qs ⟨o, nx⟩) (kH E cr st ops l a (some d) Q) := by
 rw [D7]; unfold wO; simp only [f9, ad7]; cases (A4 a ps.toList).bind fun qs => l7 E.P (st, d) t n qs ⟨o, nx⟩ <;> rfl
@[go_sem] theorem cT9 (d t x) : WS E cr st ops (⟨some d, .load t x, ty, p, af, none⟩ :: l) a o nx Q = wO ((opd a x).bind fun v => N4 E.P t v ⟨o, nx⟩) (kV E cr st ops l a d o nx Q) := by
 rw [D7]; unfold wO; simp only [f9]
 cases opd a x with
 | none => rfl
 | some v => simp only [Option.bind_some]; cases N4 E.P t v ⟨o, nx⟩ <;> rfl
@[go_sem] theorem cH2 (t x y) : WS E cr st ops (⟨none, .store t x y, ty, p, af, none⟩ :: l) a o nx Q = wO ((opd a x).bind fun pv => (opd a y).bind fun v => H4 E.P t pv v ⟨o, nx⟩) (kS E cr st ops l a Q) := by
 rw [D7]; unfold wO; simp only [f9]
 cases opd a x with
 | none => rfl
 | some v =>
  simp only [Option.bind_some]
  cases opd a y with
  | none => rfl
  | some u => simp only [Option.bind_some]; cases H4 E.P t v u ⟨o, nx⟩ <;> rfl
def cy9 (v : AV) : Option AV := match v with | .ptr k g off => some (.ptr k g off) | .fptr cs => some (.fptr cs) | .fn (.func f) first captured => some (.fn (.func f) first captured) | _ => none
@[go_sem] theorem cz0 (k g off) : cy9 (.ptr k g off) = some (.ptr k g off) := rfl
@[go_sem] theorem cg8 (cs) : cy9 (.fptr cs) = some (.fptr cs) := rfl
@[go_sem] theorem cH3 (f x y) : cy9 (.fn (.func f) x y) = some (.fn (.func f) x y) := rfl
@[go_sem] theorem cc3 (d x) : WS E cr st ops (⟨some d, .nilCheck x, ty, p, af, none⟩ :: l) a o nx Q = wO ((opd a x).bind cy9) (kV E cr st ops l a d o nx Q) := by
 rw [D7]; unfold wO; simp only [f9]
 cases opd a x with
 | none => rfl
 | some v =>
  simp only [Option.bind_some]
  cases v with
  | fn f x y => cases f <;> rfl
  | _ => rfl
@[go_sem] theorem cH4 (d op t x y t') : WS E cr st ops (⟨some d, .binOp op t x y t', ty, p, af, none⟩ :: l) a o nx Q = wO ((opd a x).bind fun u => (opd a y).bind fun v => I1 E.P op t u v) (kV E cr st ops l a d o nx Q) := by
 rw [D7]; unfold wO; simp only [f9]
 cases opd a x with
 | none => rfl
 | some v =>
  simp only [Option.bind_some]
  cases opd a y with
  | none => rfl
  | some u => simp only [Option.bind_some]; cases I1 E.P op t v u <;> rfl
@[go_sem] theorem cU0 (d op t x) : WS E cr st ops (⟨some d, .unOp op t x, ty, p, af, none⟩ :: l) a o nx Q = wO ((opd a x).bind (aUn op)) (kV E cr st ops l a d o nx Q) := by
 rw [D7]; unfold wO; simp only [f9]
 cases opd a x with
 | none => rfl
 | some v => simp only [Option.bind_some]; cases aUn op v <;> rfl
@[go_sem] theorem cg9 (d s t x) : WS E cr st ops (⟨some d, .convert s t x, ty, p, af, none⟩ :: l) a o nx Q = wO ((opd a x).bind fun u => f6 E.P (st, d) s t u ⟨o, nx⟩) (kH E cr st ops l a (some d) Q) := by
 rw [D7]; unfold wO; simp only [f9, ad7]; cases (opd a x).bind fun u => f6 E.P (st, d) s t u ⟨o, nx⟩ <;> rfl
def cH5 (fn : Fn) (f c : Option (List AV)) : Option AV := match f, c with | some f, some c => some (.fn fn f c) | _, _ => none
@[go_sem] theorem ch0 (fn f c) : cH5 fn (some f) (some c) = some (.fn fn f c) := rfl
@[go_sem] theorem cc4 (d fn f c) : WS E cr st ops (⟨some d, .makeFunc fn f c, ty, p, af, none⟩ :: l) a o nx Q = wO (cH5 fn (R8 a f.toList) (R8 a c.toList)) (kV E cr st ops l a d o nx Q) := by
 rw [D7]; unfold wO cH5; simp only [f9]
 cases R8 a f.toList with
 | none => rfl
 | some v => cases R8 a c.toList <;> rfl
@[go_sem] theorem bQ6 (d t x y) : WS E cr st ops (⟨some d, .makeSlice t x y, ty, p, af, none⟩ :: l) a o nx Q = wO ((Z6 a x).bind fun lv => (Z6 a y).bind fun cv => q7 E.P (st, d) t lv cv ⟨o, nx⟩) (kH E cr st ops l a (some d) Q) := by
 rw [D7]; unfold wO; simp only [f9, ad7]; cases (Z6 a x).bind fun lv => (Z6 a y).bind fun cv => q7 E.P (st, d) t lv cv ⟨o, nx⟩ <;> rfl
@[go_sem] theorem cH6 (d t x lo hi) : WS E cr st ops (⟨some d, .slice t x lo hi none, ty, p, af, none⟩ :: l) a o nx Q = wO ((opd a x).bind fun v => (aC2 a lo).bind fun l => (aC2 a hi).bind fun h => R7 E.P t v l h) (kV E cr st ops l a d o nx Q) := by
 rw [D7]; unfold wO; simp only [f9]
 cases opd a x with
 | none => rfl
 | some v =>
  simp only [Option.bind_some]
  cases aC2 a lo with
  | none => rfl
  | some u =>
   simp only [Option.bind_some]
   cases aC2 a hi with
   | none => rfl
   | some h => simp only [Option.bind_some]; cases R7 E.P t v u h <;> rfl
def d9 (P : Program) (t : TypeId) (f : Nat) (v : AV) : Option AV := match v, E9 P t f with
 | .ptr k g off, some (o', ft) => if (l9 P ft).getD 0 = 0 then none else some (.ptr k g (off + o'))
 | .fptr cs, some (o', ft) => if (l9 P ft).getD 0 = 0 then none else some (.fptr (cs.drop o'))
 | _, _ => none
def aF5 (P : Program) (t : TypeId) (f : Nat) (v : AV) : Option AV := match v, E9 P t f with
 | .agg cs, some (o', ft) => O4 P ft (cs.drop o')
 | _, _ => none
@[go_sem] theorem bQ7 (d t x f) : WS E cr st ops (⟨some d, .fieldAddr t x f, ty, p, af, none⟩ :: l) a o nx Q = wO ((opd a x).bind (d9 E.P t f)) (kV E cr st ops l a d o nx Q) := by
 rw [D7]; unfold wO; simp only [f9]
 cases opd a x with
 | none => rfl
 | some v =>
  simp only [Option.bind_some, d9]
  cases v with
  | ptr k g off =>
   cases E9 E.P t f with
   | none => rfl
   | some q =>
    dsimp only
    by_cases h : (l9 E.P q.2).getD 0 = 0 <;> simp [h, J7, kV]
  | fptr cs =>
   cases E9 E.P t f with
   | none => rfl
   | some q =>
    dsimp only
    by_cases h : (l9 E.P q.2).getD 0 = 0 <;> simp [h, J7, kV]
  | _ => rfl
@[go_sem] theorem cH7 (d t x f) : WS E cr st ops (⟨some d, .field t x f, ty, p, af, none⟩ :: l) a o nx Q = wO ((opd a x).bind (aF5 E.P t f)) (kV E cr st ops l a d o nx Q) := by
 rw [D7]; unfold wO; simp only [f9]
 cases opd a x with
 | none => rfl
 | some v =>
  simp only [Option.bind_some, aF5]
  cases v with
  | agg cs =>
   cases E9 E.P t f with
   | none => rfl
   | some q => dsimp only; cases O4 E.P q.2 (cs.drop q.1) <;> rfl
  | _ => rfl
@[go_sem] theorem bQ8 (d t x i) : WS E cr st ops (⟨some d, .indexAddr t x i, ty, p, af, none⟩ :: l) a o nx Q = wO ((opd a x).bind fun v => (Z6 a i).bind fun j => j6 E.P t v j) (kV E cr st ops l a d o nx Q) := by
 rw [D7]; unfold wO; simp only [f9]
 cases opd a x with
 | none => rfl
 | some v =>
  simp only [Option.bind_some]
  cases Z6 a i with
  | none => rfl
  | some u => simp only [Option.bind_some]; cases j6 E.P t v u <;> rfl
@[go_sem] theorem cH8 (d t x i) : WS E cr st ops (⟨some d, .index t x i, ty, p, af, none⟩ :: l) a o nx Q = wO ((opd a x).bind fun v => (Z6 a i).bind fun j => R1 E.P t v j) (kV E cr st ops l a d o nx Q) := by
 rw [D7]; unfold wO; simp only [f9]
 cases opd a x with
 | none => rfl
 | some v =>
  simp only [Option.bind_some]
  cases Z6 a i with
  | none => rfl
  | some u => simp only [Option.bind_some]; cases R1 E.P t v u <;> rfl
def ay7 (i : Nat) (v : AV) : Option AV := match v with | .tup vs => vs[i]? | _ => none
@[go_sem] theorem bK9 (i vs) : ay7 i (.tup vs) = vs[i]? := rfl
@[go_sem] theorem ch1 (d t i) : WS E cr st ops (⟨some d, .extract t i, ty, p, af, none⟩ :: l) a o nx Q = wO ((opd a t).bind (ay7 i)) (kV E cr st ops l a d o nx Q) := by
 rw [D7]; unfold wO; simp only [f9]
 cases opd a t with
 | none => rfl
 | some v =>
  simp only [Option.bind_some, ay7]
  cases v with
  | tup vs => dsimp only; cases vs[i]? <;> rfl
  | _ => rfl
@[go_sem] theorem dg5 (d x t) : WS E cr st ops (⟨some d, .call ⟨.builtin .len, #[x], #[t]⟩, ty, p, af, none⟩ :: l) a o nx Q = wO ((opd a x).bind (N6 E.P o t)) (kV E cr st ops l a d o nx Q) := by
 rw [D7]; unfold wO; simp only [f9, R8]
 cases opd a x with
 | none => rfl
 | some v =>
  simp only [Option.bind_some]
  rw [if_pos (by exact Nat.succ_pos _)]
  simp only [Array.getD_eq_getD_getElem?, List.getElem?_toArray, List.getElem?_cons_zero, Option.getD_some]
  cases N6 E.P o t v <;> rfl
@[go_sem] theorem cz1 (d x y t t') : WS E cr st ops (⟨some d, .call ⟨.builtin .append, #[x, y], #[t, t']⟩, ty, p, af, none⟩ :: l) a o nx Q = wO ((opd a x).bind fun u => (opd a y).bind fun v => w6 E.P (st, d) t t' u v ⟨o, nx⟩) (kH E cr st ops l a (some d) Q) := by
 rw [D7]; unfold wO; simp only [f9, R8, ad7]
 cases opd a x with
 | none => rfl
 | some u =>
  simp only [Option.bind_some]
  cases opd a y with
  | none => rfl
  | some v =>
   simp only [Option.bind_some]
   rw [if_pos (by rfl)]
   simp only [Array.getD_eq_getD_getElem?, List.getElem?_toArray, List.getElem?_cons_zero, List.getElem?_cons_succ, Option.getD_some]
   cases w6 E.P (st, d) t t' u v ⟨o, nx⟩ <;> rfl
@[go_sem] theorem cU1 (d x y t t') : WS E cr st ops (⟨d, .call ⟨.builtin .copy, #[x, y], #[t, t']⟩, ty, p, af, none⟩ :: l) a o nx Q = wO ((opd a x).bind fun u => (opd a y).bind fun v => P7 E.P t u v ⟨o, nx⟩) (kH E cr st ops l a d Q) := by
 rw [D7]; unfold wO; simp only [f9, R8]
 cases opd a x with
 | none => rfl
 | some u =>
  simp only [Option.bind_some]
  cases opd a y with
  | none => rfl
  | some v =>
   simp only [Option.bind_some]
   rw [if_pos (by exact Nat.succ_pos _)]
   simp only [Array.getD_eq_getD_getElem?, List.getElem?_toArray, List.getElem?_cons_zero, Option.getD_some]
   cases P7 E.P t u v ⟨o, nx⟩ <;> rfl
@[go_sem] theorem dg6 (d x y t t') : WS E cr st ops (⟨some d, .call ⟨.builtin .max, #[x, y], #[t, t']⟩, ty, p, af, none⟩ :: l) a o nx Q = wO ((opd a x).bind fun u => (opd a y).bind fun v => cg0 [u, v]) (kV E cr st ops l a d o nx Q) := by
 rw [D7]; unfold wO; simp only [f9, R8]
 cases opd a x with
 | none => rfl
 | some u =>
  simp only [Option.bind_some]
  cases opd a y with
  | none => rfl
  | some v => simp only [Option.bind_some]; cases cg0 [u, v] <;> rfl
@[go_sem] theorem dg7 (d x y t t') : WS E cr st ops (⟨some d, .call ⟨.builtin .min, #[x, y], #[t, t']⟩, ty, p, af, none⟩ :: l) a o nx Q = wO ((opd a x).bind fun u => (opd a y).bind fun v => ca9 [u, v]) (kV E cr st ops l a d o nx Q) := by
 rw [D7]; unfold wO; simp only [f9, R8]
 cases opd a x with
 | none => rfl
 | some u =>
  simp only [Option.bind_some]
  cases opd a y with
  | none => rfl
  | some v => simp only [Option.bind_some]; cases ca9 [u, v] <;> rfl
@[go_sem] theorem cU2 (d f xs ts) : WS E cr st ops (⟨d, .call ⟨.value f, xs, ts⟩, ty, p, af, none⟩ :: l) a o nx Q = wO ((R8 a xs.toList).bind fun vs => (opd a f).bind fun fv => ai5 E (fun _ _ => none) cr fv vs ⟨o, nx⟩) (kH E cr st ops l a d Q) := by
 rw [D7]; unfold wO; simp only [f9]
 cases (R8 a xs.toList).bind fun args => (opd a f).bind fun fv => ai5 E (fun _ _ => none) cr fv args ⟨o, nx⟩ <;> rfl
end
end
@[go_sem] theorem ch2 (args t) : y0 args t = (args[t]?).getD noV := rfl
@[go_sem] theorem bQ9 (a t) : opd a (.tmp t) = some (a t) := rfl
@[go_sem] theorem cz2 (a f) : opd a (.func f) = some (.fn (.func f) [] []) := rfl
@[go_sem] theorem cH9 (a k n) : opd a (.const (.int k n)) = some (.int k n) := rfl
@[go_sem] theorem cz3 (a b) : opd a (.const (.bool b)) = some (.bool b) := rfl
@[go_sem] theorem cI0 (a) : opd a (.const (.slice none 0 0)) = some .nil := rfl
@[go_sem] theorem cI1 (a s) : opd a (.const (.string s)) = some (.str s.data.toList) := rfl
@[go_sem] theorem cz4 (a) : opd a (.const (.pointer none)) = some .nilp := rfl
@[go_sem] theorem cI2 (a) : opd a (.const (.map none)) = some .nilmp := rfl
@[go_sem] theorem cz5 (a) : R8 a [] = some [] := rfl
def bj6 (x : Option AV) (xs : Option (List AV)) : Option (List AV) := match x, xs with | some v, some vs => some (v :: vs) | _, _ => none
@[go_sem] theorem cc5 (v vs) : bj6 (some v) (some vs) = some (v :: vs) := rfl
@[go_sem] theorem ch3 (a x xs) : R8 a (x :: xs) = bj6 (opd a x) (R8 a xs) := rfl
@[go_sem] theorem ay8 (a t v u) : put a t v u = if u = t then v else a u := rfl
@[go_sem] theorem bj7 (a t v) : J7 a (some t) v = put a t v := rfl
@[go_sem] theorem ch4 (a v) : J7 a none v = a := rfl
@[go_sem] theorem d6 (o i j x k l) : upd o (i, j) x (k, l) = if l = j then (if k = i then some x else o (k, l)) else o (k, l) := by
 unfold upd
 by_cases h1 : l = j <;> by_cases h2 : k = i <;> simp [h1, h2]
@[go_sem] theorem cI3 (o nx t e s b cs) : (W8 ⟨o, nx⟩ t e s b cs).o = upd o t (.row ⟨e, s, t, false, b, cs⟩) := rfl
@[go_sem] theorem cz6 (o nx t e s b cs) : (W8 ⟨o, nx⟩ t e s b cs).nx = nx := rfl
@[go_sem] theorem cz7 (o nx t r) : (ak7 ⟨o, nx⟩ t r).o = upd o t (.row r) := rfl
@[go_sem] theorem ch5 (o nx t r) : (ak7 ⟨o, nx⟩ t r).nx = nx := rfl
def M7 (x : Option AObj) (g : Tag) : Option Row := match x with | some (.row r) => if r.gen = g then some r else none | _ => none
@[go_sem] theorem Y3 (o k g) : W7 o k g = M7 (o k) g := rfl
@[go_sem] theorem ae9 (e s g ro pl cs) : M7 (some (.row ⟨e, s, g, ro, pl, cs⟩)) g = some ⟨e, s, g, ro, pl, cs⟩ := if_pos rfl
@[go_sem] theorem ch6 (P t k g off o nx) : N4 P t (.ptr k g off) ⟨o, nx⟩ = (W7 o k g).bind fun r => O4 P t (r.cs.drop off) := by
 unfold N4; dsimp only; cases W7 o k g <;> rfl
@[go_sem] theorem cc6 (P t cs o nx) : N4 P t (.fptr cs) ⟨o, nx⟩ = O4 P t cs := rfl
def bj8 (k : Tag) (off n : Nat) (cs : List AV) (o : Ob) (nx : Nat) (r : Row) : Option AH :=
 if cs.length = n ∧ cs.all n9 = true ∧ r.ro = false ∧ off + n ≤ r.cs.length then some ⟨upd o k (.row { r with cs := r8 r.cs off cs }), nx⟩ else none
@[go_sem] theorem cc7 (P t k g off x o nx) : H4 P t (.ptr k g off) x ⟨o, nx⟩ = (l9 P t).bind fun n => (W7 o k g).bind (bj8 k off n x.cells o nx) := by
 unfold H4
 dsimp only
 cases l9 P t with
 | none => rfl
 | some n =>
  dsimp only [Option.bind_some]
  cases W7 o k g <;> rfl
def ch7 (b : Option Bool) (n : Option Nat) (cs : List AV) : Option AV := match b, n with | some b, some n => M5 b n cs | _, _ => none
@[go_sem] theorem cc8 (b n cs) : ch7 (some b) (some n) cs = M5 b n cs := rfl
@[go_sem] theorem cz8 (P t cs) : O4 P t cs = ch7 (G9 P t) (l9 P t) cs := rfl
@[go_sem] theorem ch8 (n x cs) : M5 false n (x :: cs) = some x := rfl
@[go_sem] theorem ch9 (n cs) : M5 true n cs = if n ≤ cs.length then some (.agg (cs.take n)) else none := rfl
@[go_sem] theorem cI4 (n) : asI (.int .i64 n) = some n := rfl
@[go_sem] theorem cI5 (a x) : Z6 a x = (opd a x).bind asI := rfl
@[go_sem] theorem ci0 (a) : aC2 a none = some none := rfl
@[go_sem] theorem ci1 (a x) : aC2 a (some x) = (Z6 a x).map some := rfl
@[go_sem] theorem ci2 (cs) : AV.cells (.agg cs) = cs := rfl
@[go_sem] theorem ci3 (k n) : AV.cells (.int k n) = [.int k n] := rfl
@[go_sem] theorem cc9 (b) : AV.cells (.bool b) = [.bool b] := rfl
@[go_sem] theorem ci4 (b) : AV.cells (.str b) = [.str b] := rfl
@[go_sem] theorem ci5 : AV.cells .nil = [.nil] := rfl
@[go_sem] theorem cz9 (n cs) : AV.cells (.sl n cs) = [.sl n cs] := rfl
@[go_sem] theorem ci6 (k g off n) : AV.cells (.ref k g off n) = [.ref k g off n] := rfl
@[go_sem] theorem ci7 (k g off) : AV.cells (.ptr k g off) = [.ptr k g off] := rfl
@[go_sem] theorem cd0 (cs) : AV.cells (.fptr cs) = [.fptr cs] := rfl
@[go_sem] theorem cA0 (f x y) : AV.cells (.fn f x y) = [.fn f x y] := rfl
@[go_sem] theorem cA1 (k) : AV.cells (.mp k) = [.mp k] := rfl
@[go_sem] theorem cd1 : AV.cells .nilp = [.nilp] := rfl
@[go_sem] theorem bR0 : AV.cells .nilmp = [.nilmp] := rfl
@[go_sem] theorem cU3 (k n) : n9 (.int k n) = true := rfl
@[go_sem] theorem cI6 (b) : n9 (.bool b) = true := rfl
@[go_sem] theorem cU4 (b) : n9 (.str b) = true := rfl
@[go_sem] theorem cU5 : n9 .nil = true := rfl
@[go_sem] theorem dg8 (n cs) : n9 (.sl n cs) = true := rfl
@[go_sem] theorem cU6 (k g off n) : n9 (.ref k g off n) = true := rfl
@[go_sem] theorem cU7 (k g off) : n9 (.ptr k g off) = true := rfl
@[go_sem] theorem cI7 (cs) : n9 (.fptr cs) = true := rfl
@[go_sem] theorem dg9 (f x y) : n9 (.fn f x y) = true := rfl
@[go_sem] theorem dh0 (k) : n9 (.mp k) = true := rfl
@[go_sem] theorem cI8 : n9 .nilp = true := rfl
@[go_sem] theorem cA2 : n9 .nilmp = true := rfl
theorem D8 {o : Ob} {i i' j j' : Nat} {x : AObj} (h : i ≠ i') : upd o (i', j') x (i, j) = o (i, j) := B9 _ _ _ _ (fun e => h (by injection e))
attribute [go_sem] beq_self_eq_true Nat.sub_zero Option.bind_some Option.bind_none Option.map_some Option.map_none Option.getD_some Option.getD_none List.toList_toArray List.all_cons List.all_nil Bool.and_self Bool.and_true Bool.true_and List.length_cons List.length_nil List.drop_zero List.drop_succ_cons List.drop_nil List.cons_append List.nil_append List.append_nil reduceIte Nat.add_zero Nat.zero_add Nat.mul_one Nat.one_mul Nat.zero_mul Nat.mul_zero ne_eq not_true_eq_false not_false_eq_true or_self or_false false_or and_self and_true true_and and_false false_and List.take_succ_cons List.take_zero List.getElem?_cons_zero List.getElem?_cons_succ eq_self if_true if_false Bool.not_true Bool.not_false Bool.not_not Bool.false_and Bool.and_false Bool.or_true Bool.true_or Bool.or_false Bool.false_or Bool.true_eq_false Bool.false_eq_true
end Go.Proofs.YtpmjpogcaglphaaDoor.A
namespace Go.Proofs.YtpmjpogcaglphaaDoor.A
open Go
abbrev X4 : Int := 140737488355328
attribute [go_sem] X4 Nat.min_self true_or or_true List.length_replicate Nat.le_refl Int.le_refl
@[go_sem] theorem dh1 : ((0 : Nat) : Int) = 0 := rfl
section
variable {P : Program} {t e : TypeId} {s n b : Nat} {z : List AV}
theorem Q4 (h : (E7 P t).bind (l9 P) = some s) (k g off n i) : j6 P t (.ref k g off n) i = if 0 ≤ i ∧ i < (n : Int) then some (.ptr k g (off + i.toNat * s)) else none := by
 unfold j6; simp only [h]
theorem aa7 (h : (E7 P t).bind (l9 P) = some s) (n cs i) : j6 P t (.sl n cs) i = if 0 ≤ i ∧ i < (n : Int) then some (.fptr (cs.drop (i.toNat * s))) else none := by
 unfold j6; simp only [h]
theorem aM3 (h : ak5 P t = some (n, e)) (hs : l9 P e = some s) (k g off i) : j6 P t (.ptr k g off) i = if 0 ≤ i ∧ i < (n : Int) then some (.ptr k g (off + i.toNat * s)) else none := by
 unfold j6; simp only [h, hs]
theorem bR1 (h : ak5 P t = some (n, e)) (hs : l9 P e = some s) (cs i) : R1 P t (.agg cs) i = if 0 ≤ i ∧ i < (n : Int) then O4 P e (cs.drop (i.toNat * s)) else none := by
 unfold R1; simp only [h, hs]
theorem bR2 (h : ar5 (P.underlying t) = true) (x i) : R1 P t (.str x) i = if 0 ≤ i then (x[i.toNat]?).map fun b => .int .u8 b.toNat else none := by
 unfold R1; simp only [h, if_true]
theorem x7 {f o' ft : Nat} (h : E9 P t f = some (o', ft)) (hs : l9 P ft = some (s + 1)) (k g off) : d9 P t f (.ptr k g off) = some (.ptr k g (off + o')) := by
 unfold d9; simp [h, hs]
theorem T2 {f o' ft : Nat} (h : E9 P t f = some (o', ft)) (hs : l9 P ft = some (s + 1)) (cs) : d9 P t f (.fptr cs) = some (.fptr (cs.drop o')) := by
 unfold d9; simp [h, hs]
theorem ci8 {f o' ft : Nat} (h : E9 P t f = some (o', ft)) (cs) : aF5 P t f (.agg cs) = O4 P ft (cs.drop o') := by
 unfold aF5; simp [h]
theorem bj9 (h : (E7 P t).bind (l9 P) = some (s + 1)) (k g off n lo hi) : R7 P t (.ref k g off n) lo hi = if 0 ≤ lo.getD 0 ∧ lo.getD 0 ≤ hi.getD n ∧ hi.getD n ≤ n then some (.ref k g (off + (lo.getD 0).toNat * (s + 1)) ((hi.getD n).toNat - (lo.getD 0).toNat)) else none := by
 unfold R7; simp only [h, Nat.succ_pos, true_and]
theorem aF6 (h : P.underlying t = some (.slice e)) (o) : N6 P o t .nil = some (.int .i64 0) := by unfold N6; simp only [h]
theorem aF7 (h : P.underlying t = some (.slice e)) (o n cs) : N6 P o t (.sl n cs) = some (.int .i64 n) := by unfold N6; simp only [h]
theorem X5 (h : P.underlying t = some (.slice e)) (o k g off n) : N6 P o t (.ref k g off n) = some (.int .i64 n) := by unfold N6; simp only [h]
theorem ci9 (h : P.underlying t = some .string) (o x) : N6 P o t (.str x) = some (.int .i64 x.length) := by unfold N6; simp only [h]
theorem aF8 (h : E7 P t = some e) (hs : l9 P e = some (s + 1)) (hb : ag3 P e = some b) (hz : F8 P e = some z) (hl : z.length = s + 1) (tg l c o nx) : q7 P tg t l c ⟨o, nx⟩ = if 0 ≤ l ∧ l ≤ c ∧ c * b ≤ X4 ∧ c ≤ X4 then some (.ref tg tg 0 l.toNat, ⟨upd o tg (.row ⟨e, s + 1, tg, false, true, rep z l.toNat⟩), nx⟩) else none := by
 unfold q7; simp only [h, hs, hb, hz, hl, Nat.succ_pos, and_true]; rfl
theorem ai6 (h : E7 P t = some e) (hs : l9 P e = some (s + 1)) (hz : F8 P e = some z) (hl : z.length = s + 1) (tg n ps o nx) : l7 P tg t n ps ⟨o, nx⟩ = if n * (s + 1) ≤ 16777216 then (y7 (fun i => some (i * (s + 1), s + 1)) (rep z n) ps).map (fun cs => (.ref tg tg 0 n, ⟨upd o tg (.row ⟨e, s + 1, tg, false, true, cs⟩), nx⟩)) else none := by
 unfold l7; simp only [h, hs, hz, hl, Nat.succ_pos, and_true]
 split
 ·cases y7 (fun i => some (i * (s + 1), s + 1)) (rep z n) ps <;> rfl
 ·rfl
def aM4 (tg : Tag) (e sz by_ : Nat) (x : AV) (m : Nat) (new : List AV) (o : Ob) (nx : Nat) : Option (AV × AH) :=
 if new.length = m * sz ∧ new.all n9 = true then
  match x with
  | .nil => if m = 0 then some (.nil, ⟨o, nx⟩) else if (m * by_ : Int) ≤ X4 then some (.ref tg tg 0 m, ⟨upd o tg (.row ⟨e, sz, tg, false, true, new⟩), nx⟩) else none
  | .ref k g 0 n => (M7 (o k) g).bind fun r => if r.elem = e ∧ r.sz = sz ∧ r.ro = false ∧ r.plain = true ∧ n * sz ≤ r.cs.length ∧ ((n + m) * by_ : Int) ≤ X4 then some (.ref k tg 0 (n + m), ⟨upd o k (.row { r with gen := tg, cs := r.cs.take (n * sz) ++ new }), nx⟩) else none
  | _ => none
 else none
theorem as1 {t' : TypeId} (h : E7 P t = some e) (hs : l9 P e = some (s + 1)) (hb : ag3 P e = some (b + 1)) (hz : F8 P e = some z) (hl : z.length = s + 1) (ht : (ar5 (P.underlying t') || (E7 P t').isSome) = true) (tg x y o nx) : w6 P tg t t' x y ⟨o, nx⟩ = (D2 o y).bind fun q => aM4 tg e (s + 1) (b + 1) x q.1 q.2 o nx := by
 unfold w6
 simp only [h, hs, hb, hz]
 cases D2 o y with
 | none => rfl
 | some q =>
  obtain ⟨m, new⟩ := q
  have h1 : ¬ (ar5 (P.underlying t') = false ∧ (E7 P t').isSome = false) := by
   rintro ⟨h1, h2⟩; rw [h1, h2] at ht; cases ht
  simp only [Option.bind_some, aM4, hl, ne_eq, not_true_eq_false, h1, false_or, Nat.succ_ne_zero]
  by_cases hc : new.length = m * (s + 1) ∧ new.all n9 = true
  ·have c3 : ¬ (¬ new.length = m * (s + 1) ∨ new.all n9 = false) := by
    rintro (h | h)
    ·exact h hc.1
    ·rw [hc.2] at h; cases h
   rw [if_neg c3, if_pos hc]
   cases x with
   | nil =>
    have : (m * (b + 1) ≤ 140737488355328) ↔ ((m : Int) * ((b + 1 : Nat) : Int) ≤ X4) := by unfold X4; rw [← Int.natCast_mul]; omega
    simp only [this]
    rfl
   | ref k g off n =>
    cases off with
    | zero =>
     have : ((n + m) * (b + 1) ≤ 140737488355328) ↔ (((n : Int) + (m : Int)) * ((b + 1 : Nat) : Int) ≤ X4) := by
      unfold X4
      rw [← Int.natCast_add, ← Int.natCast_mul]
      omega
     simp only [Y3, this]
     cases M7 (o k) g <;> rfl
    | succ off => rfl
   | _ => rfl
  ·have c3 : (¬ new.length = m * (s + 1) ∨ new.all n9 = false) := by
    by_cases c1 : new.length = m * (s + 1)
    ·exact .inr (by rw [← Bool.not_eq_true]; exact fun h => hc ⟨c1, h⟩)
    ·exact .inl c1
   rw [if_pos c3, if_neg hc]
@[go_sem] theorem bz3 (tg e sz by_ m new o nx) : aM4 tg e sz by_ .nil m new o nx = if new.length = m * sz ∧ new.all n9 = true then (if m = 0 then some (.nil, ⟨o, nx⟩) else if (m * by_ : Int) ≤ X4 then some (.ref tg tg 0 m, ⟨upd o tg (.row ⟨e, sz, tg, false, true, new⟩), nx⟩) else none) else none := rfl
def cI9 (tg : Tag) (e sz by_ : Nat) (k : Tag) (n m : Nat) (new : List AV) (o : Ob) (nx : Nat) (r : Row) : Option (AV × AH) :=
 if r.elem = e ∧ r.sz = sz ∧ r.ro = false ∧ r.plain = true ∧ n * sz ≤ r.cs.length ∧ ((n + m) * by_ : Int) ≤ X4 then some (.ref k tg 0 (n + m), ⟨upd o k (.row { r with gen := tg, cs := r.cs.take (n * sz) ++ new }), nx⟩) else none
@[go_sem] theorem bz4 (tg e sz by_ k n m new o nx g cs) : cI9 tg e sz by_ k n m new o nx ⟨e, sz, g, false, true, cs⟩ = if n * sz ≤ cs.length ∧ ((n + m) * by_ : Int) ≤ X4 then some (.ref k tg 0 (n + m), ⟨upd o k (.row ⟨e, sz, tg, false, true, cs.take (n * sz) ++ new⟩), nx⟩) else none := by
 unfold cI9; simp
@[go_sem] theorem bz5 (tg e sz by_ k g n m new o nx) : aM4 tg e sz by_ (.ref k g 0 n) m new o nx = if new.length = m * sz ∧ new.all n9 = true then (M7 (o k) g).bind (cI9 tg e sz by_ k n m new o nx) else none := rfl
def aF9 (k : Tag) (off n sz m : Nat) (new : List AV) (o : Ob) (nx : Nat) (r : Row) : Option (AV × AH) :=
 if (off = 0 ∨ 0 < n) ∧ r.sz = sz ∧ r.ro = false ∧ off + n * sz ≤ r.cs.length ∧ new.length = m * sz ∧ new.all n9 = true then some (.int .i64 (min m n : Nat), ⟨upd o k (.row { r with cs := r8 r.cs off (new.take (min m n * sz)) }), nx⟩) else none
@[go_sem] theorem cj0 (k off n sz m new o nx e g pl cs) : aF9 k off n sz m new o nx ⟨e, sz, g, false, pl, cs⟩ = if (off = 0 ∨ 0 < n) ∧ off + n * sz ≤ cs.length ∧ new.length = m * sz ∧ new.all n9 = true then some (.int .i64 (min m n : Nat), ⟨upd o k (.row ⟨e, sz, g, false, pl, r8 cs off (new.take (min m n * sz))⟩), nx⟩) else none := by
 unfold aF9; simp
theorem aG0 (h : (E7 P t).bind (l9 P) = some s) (k g off n x o nx) : P7 P t (.ref k g off n) x ⟨o, nx⟩ = (D2 o x).bind fun q => (M7 (o k) g).bind (aF9 k off n s q.1 q.2 o nx) := by
 unfold P7
 simp only [h]
 cases D2 o x with
 | none => rfl
 | some q =>
  simp only [Option.bind_some, Y3]
  cases M7 (o k) g <;> rfl
theorem aT0 (hz : F8 P t = some z) (hu : P.underlying t = some (.array n e)) (hs : l9 P e = some s) (xs) : D3 P t xs = (y7 (fun i => some (i * s, s)) z xs).map .agg := by
 unfold D3; simp only [hz, hu, hs]
end
@[go_sem] theorem bR3 (a) : A4 a [] = some [] := rfl
def cj1 (i : Nat) (x : Option AV) (xs : Option (List (Nat × AV))) : Option (List (Nat × AV)) := match x, xs with | some v, some vs => some ((i, v) :: vs) | _, _ => none
@[go_sem] theorem cd2 (i v vs) : cj1 i (some v) (some vs) = some ((i, v) :: vs) := rfl
@[go_sem] theorem bL0 (a i x ps) : A4 a ((i, x) :: ps) = cj1 i (opd a x) (A4 a ps) := rfl
@[go_sem] theorem cj2 (place cells) : y7 place cells [] = some cells := rfl
def bR4 (p : Option (Nat × Nat)) (cells vs : List AV) : Option (List AV) := match p with
 | none => none
 | some (off, size) => if vs.length = size ∧ off + size ≤ cells.length ∧ vs.all n9 = true then some (r8 cells off vs) else none
@[go_sem] theorem cd3 (place cells i v rest) : y7 place cells ((i, v) :: rest) = (bR4 (place i) cells v.cells).bind fun cs => y7 place cs rest := by
 simp only [y7, bR4]
 cases place i with
 | none => rfl
 | some q => obtain ⟨off, size⟩ := q; dsimp only; split <;> rfl
@[go_sem] theorem cd4 (off size cells vs) : bR4 (some (off, size)) cells vs = if vs.length = size ∧ off + size ≤ cells.length ∧ vs.all n9 = true then some (r8 cells off vs) else none := rfl
@[go_sem] theorem cd5 (k off n cs o nx e s g pl rs) : bj8 k off n cs o nx ⟨e, s, g, false, pl, rs⟩ = if cs.length = n ∧ cs.all n9 = true ∧ off + n ≤ rs.length then some ⟨upd o k (.row ⟨e, s, g, false, pl, r8 rs off cs⟩), nx⟩ else none := by
 unfold bj8; simp
@[go_sem] theorem bR5 (rs cs) : r8 rs 0 cs = cs ++ rs.drop cs.length := by simp [r8]
@[go_sem] theorem bR6 (x rs off cs) : r8 (x :: rs) (off + 1) cs = x :: r8 rs off cs := by
 unfold r8
 rw [show off + 1 + cs.length = (off + cs.length) + 1 by omega]
 rfl
@[go_sem] theorem cA3 (z) : rep z 0 = [] := rfl
@[go_sem] theorem cA4 (z n) : rep z (n + 1) = z ++ rep z n := rfl
theorem ay9 (x n) : rep [x] n = List.replicate n x := by
 induction n with
 | zero => rfl
 | succ n ih => simp [rep, ih, List.replicate_succ]
theorem bz6 (z n) : rep z n = (List.replicate n z).flatten := by
 induction n with
 | zero => rfl
 | succ n ih => simp [rep, ih, List.replicate_succ]
@[go_sem] theorem cj3 (o) : D2 o .nil = some (0, []) := rfl
@[go_sem] theorem cA5 (o n cs) : D2 o (.sl n cs) = some (n, cs) := rfl
@[go_sem] theorem cj4 (o x) : D2 o (.str x) = some (x.length, x.map fun b => .int .u8 b.toNat) := rfl
@[go_sem] theorem cj5 (o k g off n) : D2 o (.ref k g off n) = (M7 (o k) g).map fun r => (n, (r.cs.drop off).take (n * r.sz)) := by
 simp only [D2, z7, Y3]; cases M7 (o k) g <;> rfl
@[go_sem] theorem cA6 (P t k x y) : I1 P .add t (.int k x) (.int k y) = some (.int k (k.wrap (x + y))) := by simp [I1, aK0]
@[go_sem] theorem cA7 (P t k x y) : I1 P .sub t (.int k x) (.int k y) = some (.int k (k.wrap (x - y))) := by simp [I1, aK0]
@[go_sem] theorem cA8 (P t k x y) : I1 P .mul t (.int k x) (.int k y) = some (.int k (k.wrap (x * y))) := by simp [I1, aK0]
@[go_sem] theorem cA9 (P t k x y) : I1 P .quo t (.int k x) (.int k y) = if y = 0 then none else some (.int k (k.wrap (x.tdiv y))) := by simp [I1, aK0]
@[go_sem] theorem cB0 (P t k x y) : I1 P .rem t (.int k x) (.int k y) = if y = 0 then none else some (.int k (x.tmod y)) := by simp [I1, aK0]
@[go_sem] theorem cB1 (P t k x y) : I1 P .eql t (.int k x) (.int k y) = some (.bool (decide (x = y))) := by simp [I1, aK0]; rfl
@[go_sem] theorem cB2 (P t k x y) : I1 P .neq t (.int k x) (.int k y) = some (.bool (decide (¬ x = y))) := by simp [I1, aK0, bne]; rfl
@[go_sem] theorem cB3 (P t k x y) : I1 P .lss t (.int k x) (.int k y) = some (.bool (decide (x < y))) := by simp [I1, aK0]
@[go_sem] theorem cB4 (P t k x y) : I1 P .leq t (.int k x) (.int k y) = some (.bool (decide (x ≤ y))) := by simp [I1, aK0]
@[go_sem] theorem cB5 (P t k x y) : I1 P .gtr t (.int k x) (.int k y) = some (.bool (decide (y < x))) := by simp [I1, aK0]
@[go_sem] theorem cB6 (P t k x y) : I1 P .geq t (.int k x) (.int k y) = some (.bool (decide (y ≤ x))) := by simp [I1, aK0]
@[go_sem] theorem cB7 (P t k k' x y) : I1 P .shl t (.int k x) (.int k' y) = ag4 .shl k x y := by simp [I1]
@[go_sem] theorem cB8 (P t k k' x y) : I1 P .shr t (.int k x) (.int k' y) = ag4 .shr k x y := by simp [I1]
@[go_sem] theorem cB9 (P t k x y) : I1 P .and t (.int k x) (.int k y) = ak6 .and k x y := by simp [I1, aK0]
@[go_sem] theorem cJ0 (P t k x y) : I1 P .or t (.int k x) (.int k y) = ak6 .or k x y := by simp [I1, aK0]
theorem bz7 {P : Program} {t : TypeId} (h : ak4 (P.underlying t) = true) (x y) : I1 P .neq t (.bool x) (.bool y) = some (.bool (!(x == y))) := by simp [I1, h]
@[go_sem] theorem cj6 (P t x y) : I1 P .add t (.str x) (.str y) = if x.length + y.length ≤ 9223372036854775807 then some (.str (x ++ y)) else none := by simp [I1, ca8]
@[go_sem] theorem cj7 (P t x y) : I1 P .eql t (.str x) (.str y) = some (.bool (x == y)) := by simp [I1, ca8]
@[go_sem] theorem cj8 (P t x y) : I1 P .neq t (.str x) (.str y) = some (.bool (!(x == y))) := by simp [I1, ca8]
@[go_sem] theorem cJ1 (x) : aUn .not (.bool x) = some (.bool (!x)) := rfl
@[go_sem] theorem cJ2 (k n) : aUn .neg (.int k n) = some (.int k (k.wrap (0 - n))) := rfl
def cvI (s d : Option TypeDesc) (n : Int) (o : Ob) (nx : Nat) : Option (AV × AH) := match s, d with | some _, some (.int k) => some (.int k (k.wrap n), ⟨o, nx⟩) | _, _ => none
@[go_sem] theorem cC0 (s k n o nx) : cvI (some s) (some (.int k)) n o nx = some (.int k (k.wrap n), ⟨o, nx⟩) := rfl
theorem u0 {P : Program} {s d : TypeId} {k : IntKind} {td : TypeDesc} (hs : P.underlying s = some td) (hd : P.underlying d = some (.int k)) (tg k' n o nx) : f6 P tg s d (.int k' n) ⟨o, nx⟩ = some (.int k (k.wrap n), ⟨o, nx⟩) := by
 unfold f6; simp only [hs, hd]
@[go_sem] theorem cd6 (k x y) : ag4 .shr k x y = if y < 0 then none else some (.int k (x.fdiv (2 ^ (min y.toNat k.bits)))) := rfl
@[go_sem] theorem cd7 (k x y) : ag4 .shl k x y = if y < 0 then none else some (.int k (k.wrap (x * 2 ^ (min y.toNat k.bits)))) := rfl
def cJ3 (k : IntKind) (x y : Int) : Int := k.wrap (BitVec.ofInt k.bits x &&& BitVec.ofInt k.bits y).toNat
def orI (k : IntKind) (x y : Int) : Int := k.wrap (BitVec.ofInt k.bits x ||| BitVec.ofInt k.bits y).toNat
@[go_sem] theorem cj9 (k x y) : ak6 .and k x y = some (.int k (cJ3 k x y)) := rfl
@[go_sem] theorem cC1 (k x y) : ak6 .or k x y = some (.int k (orI k x y)) := rfl
@[go_sem] theorem cC2 : IntKind.i64.bits = 64 := rfl
@[go_sem] theorem cC3 : IntKind.u64.bits = 64 := rfl
@[go_sem] theorem cJ4 : IntKind.u8.bits = 8 := rfl
def cI (l : List Int) : List AV := l.map (AV.int .i64)
def cB (l : List Bool) : List AV := l.map AV.bool
abbrev slI (l : List Int) : AV := .sl l.length (cI l)
abbrev slB (l : List Bool) : AV := .sl l.length (cB l)
@[go_sem] theorem cU8 : cI [] = [] := rfl
@[go_sem] theorem cU9 : cB [] = [] := rfl
@[go_sem] theorem l5 (l) : (cI l).length = l.length := by simp [cI]
@[go_sem] theorem F4 (l) : (cB l).length = l.length := by simp [cB]
@[go_sem] theorem as2 (l) : (cI l).all n9 = true := by simp [cI, List.all_eq_true, n9]
@[go_sem] theorem dh2 (l) : (cB l).all n9 = true := by simp [cB, List.all_eq_true, n9]
theorem av2 (x y) : cI (x ++ y) = cI x ++ cI y := by simp [cI]
theorem aG1 (x y) : cB (x ++ y) = cB x ++ cB y := by simp [cB]
theorem aM5 (l n) : (cI l).take n = cI (l.take n) := by simp [cI, List.map_take]
theorem bk0 (l n) : (cI l).drop n = cI (l.drop n) := by simp [cI, List.map_drop]
theorem W0 {cs : List AV} {i s : Nat} (h : i < cs.length) : M5 false s (cs.drop i) = some (cs[i]'h) := by
 rw [List.drop_eq_getElem_cons h]; rfl
theorem av3 {l : List Int} {i s : Nat} (h : i < l.length) : M5 false s ((cI l).drop i) = some (.int .i64 (l.getD i 0)) := by
 rw [W0 (by simpa [cI] using h)]; simp [cI, List.getD, h]
theorem av4 {l : List Bool} {i s : Nat} (h : i < l.length) : M5 false s ((cB l).drop i) = some (.bool (l.getD i false)) := by
 rw [W0 (by simpa [cB] using h)]; simp [cB, List.getD, h]
theorem aa8 (cs : List AV) (off : Nat) (x : AV) (h : off < cs.length) : r8 cs off [x] = cs.set off x := by
 unfold r8
 rw [List.set_eq_take_append_cons_drop, if_pos h]; simp
theorem aT1 (l : List Int) (i x) (h : i < l.length) : r8 (cI l) i [.int .i64 x] = cI (l.set i x) := by
 rw [aa8 _ _ _ (by simpa [cI] using h)]; simp [cI, List.map_set]
theorem ck0 (l : List Bool) (i x) (h : i < l.length) : r8 (cB l) i [.bool x] = cB (l.set i x) := by
 rw [aa8 _ _ _ (by simpa [cB] using h)]; simp [cB, List.map_set]
theorem an9 (n) : rep [AV.int .i64 0] n = cI (List.replicate n 0) := by rw [ay9]; simp [cI]
theorem aT2 (n) : rep [AV.bool false] n = cB (List.replicate n false) := by rw [ay9]; simp [cB]
@[go_sem] theorem aa9 (o d k n) : view o d (.int k n) = .int k n := by cases d <;> rfl
@[go_sem] theorem bk1 (o d b) : view o d (.bool b) = .bool b := by cases d <;> rfl
@[go_sem] theorem cC4 (o d b) : view o d (.str b) = .str b := by cases d <;> rfl
@[go_sem] theorem cC5 (o d) : view o d .nil = .sl 0 [] := by cases d <;> rfl
@[go_sem] theorem bk2 (o d n cs) : view o d (.sl n cs) = .sl n cs := by cases d <;> rfl
@[go_sem] theorem ck1 (o d cs) : view o d (.fptr cs) = .fptr cs := by cases d <;> rfl
@[go_sem] theorem cJ5 (o d k) : view o d (.mp k) = .und := by cases d <;> rfl
@[go_sem] theorem cC6 (o d cs) : view o (d + 1) (.agg cs) = .agg (cs.map (view o d)) := rfl
@[go_sem] theorem cC7 (o d cs) : view o (d + 1) (.tup cs) = .tup (cs.map (view o d)) := rfl
def bR7 (o : Ob) (d off n : Nat) (r : Option Row) : AV := match r with
 | some r => if off + n * r.sz ≤ r.cs.length then .sl n (((r.cs.drop off).take (n * r.sz)).map (view o d)) else .und
 | none => .und
@[go_sem] theorem ba6 (o d off n r) : bR7 o d off n (some r) = if off + n * r.sz ≤ r.cs.length then .sl n (((r.cs.drop off).take (n * r.sz)).map (view o d)) else .und := rfl
@[go_sem] theorem bz8 (o d k g off n) : view o (d + 1) (.ref k g off n) = bR7 o d off n (M7 (o k) g) := by
 unfold bR7; simp only [view]; rw [Y3]; cases M7 (o k) g <;> rfl
def bR8 (o : Ob) (d off : Nat) (r : Option Row) : AV := match r with
 | some r => .fptr ((r.cs.drop off).map (view o d))
 | none => .und
@[go_sem] theorem cd8 (o d off r) : bR8 o d off (some r) = .fptr ((r.cs.drop off).map (view o d)) := rfl
@[go_sem] theorem cC8 (o d k g off) : view o (d + 1) (.ptr k g off) = bR8 o d off (M7 (o k) g) := by
 unfold bR8; simp only [view]; rw [Y3]; cases M7 (o k) g <;> rfl
@[go_sem] theorem ck2 : n6 = 1012 := rfl
@[go_sem] theorem T3 (o d l) : (cI l).map (view o d) = cI l := by simp [cI, Function.comp_def, aa9]
@[go_sem] theorem bR9 (o d l) : (cB l).map (view o d) = cB l := by simp [cB, Function.comp_def, bk1]
attribute [go_sem] List.map_cons List.map_nil List.map_append List.length_append List.all_append List.flatMap_append flat flat.flats
def bz9 (m : Mode) (E : Env) (cp : F9) (cr : q8) (g : FuncId) (as_ : List AV) (o : Ob) (nx : Nat) : Option (AV × AH) := match m with
 | .pure sc => (cp g (as_.map (view o n6))).bind fun r => B2 sc as_ r ⟨o, nx⟩
 | .ext sc => (E.ext g (as_.map (view o n6))).bind fun r => B2 sc as_ r ⟨o, nx⟩
 | .raw fz => (cr g as_ ⟨o, nx⟩).map fun p => p8 fz p.1 p.2
@[go_sem] theorem cC9 (E cp cr g fs cs as_ o nx) : ai5 E cp cr (.fn (.func g) fs cs) as_ ⟨o, nx⟩ = bz9 (E.mode g) E cp cr g (fs ++ as_ ++ cs) o nx := by
 unfold ai5 bz9; rfl
@[go_sem] theorem ck3 (E cp cr g sc as_ o nx) : bz9 (.ext sc) E cp cr g as_ o nx = (E.ext g (as_.map (view o n6))).bind fun r => B2 sc as_ r ⟨o, nx⟩ := rfl
@[go_sem] theorem ck4 (E cp cr g fz as_ o nx) : bz9 (.raw fz) E cp cr g as_ o nx = (cr g as_ ⟨o, nx⟩).map fun p => p8 fz p.1 p.2 := rfl
@[go_sem] theorem bL1 (as_ r H) : B2 true as_ r H = if flat r then some (r, H) else none := rfl
@[go_sem] theorem bA0 (as_ r o nx) : B2 false as_ r ⟨o, nx⟩ = some (r, ⟨C9 (as_.flatMap (b9 o n6)) o, nx⟩) := rfl
theorem P0 {ts : List Tag} {o : Ob} {t : Tag} (h : t ∉ ts) : C9 ts o t = o t := by
 unfold C9
 cases o t with
 | none => rfl
 | some x =>
  cases x with
  | row r => simp [h]
  | map es => rfl
@[go_sem] theorem cd9 (o) : C9 [] o = o := by funext t; exact P0 (by simp)
@[go_sem] theorem ab0 (o d k n) : b9 o d (.int k n) = [] := by cases d <;> rfl
@[go_sem] theorem bk3 (o d b) : b9 o d (.bool b) = [] := by cases d <;> rfl
@[go_sem] theorem cD0 (o d b) : b9 o d (.str b) = [] := by cases d <;> rfl
@[go_sem] theorem cD1 (o d) : b9 o d .nil = [] := by cases d <;> rfl
@[go_sem] theorem bk4 (o d n cs) : b9 o d (.sl n cs) = [] := by cases d <;> rfl
@[go_sem] theorem ck5 (o d cs) : b9 o d (.fptr cs) = [] := by cases d <;> rfl
@[go_sem] theorem cJ6 (o d k) : b9 o d (.mp k) = [] := by cases d <;> rfl
@[go_sem] theorem cD2 (o d cs) : b9 o (d + 1) (.agg cs) = cs.flatMap (b9 o d) := rfl
@[go_sem] theorem aM6 (o d l) : (cI l).flatMap (b9 o d) = [] := by simp [cI, List.flatMap_eq_nil_iff, ab0]
@[go_sem] theorem bS0 (o d l) : (cB l).flatMap (b9 o d) = [] := by
 induction l with
 | nil => rfl
 | cons b l ih => simpa [cB, bk3] using ih
def bS1 (o : Ob) (d : Nat) (k : Tag) (off n : Nat) (r : Option Row) : List Tag := match r with
 | some r => k :: (((r.cs.drop off).take (n * r.sz)).flatMap (b9 o d))
 | none => [k]
@[go_sem] theorem ba7 (o d k off n r) : bS1 o d k off n (some r) = k :: (((r.cs.drop off).take (n * r.sz)).flatMap (b9 o d)) := rfl
@[go_sem] theorem bA1 (o d k g off n) : b9 o (d + 1) (.ref k g off n) = bS1 o d k off n (M7 (o k) g) := by
 unfold bS1; simp only [b9]; rw [Y3]; cases M7 (o k) g <;> rfl
def bS2 (o : Ob) (d : Nat) (k : Tag) (off : Nat) (r : Option Row) : List Tag := match r with
 | some r => k :: ((r.cs.drop off).flatMap (b9 o d))
 | none => [k]
@[go_sem] theorem ce0 (o d k off r) : bS2 o d k off (some r) = k :: ((r.cs.drop off).flatMap (b9 o d)) := rfl
@[go_sem] theorem cD3 (o d k g off) : b9 o (d + 1) (.ptr k g off) = bS2 o d k off (M7 (o k) g) := by
 unfold bS2; simp only [b9]; rw [Y3]; cases M7 (o k) g <;> rfl
attribute [go_sem] List.flatMap_cons List.flatMap_nil
def aG2 (b : Bool) (x : Option AObj) : Option AObj := match b with | true => x | false => match x with | some (.row r) => some (.row { r with ro := true }) | x => x
@[go_sem] theorem bS3 (x) : aG2 true x = x := rfl
@[go_sem] theorem ce1 (e s g ro pl cs) : aG2 false (some (.row ⟨e, s, g, ro, pl, cs⟩)) = some (.row ⟨e, s, g, true, pl, cs⟩) := rfl
def nin (t : Tag) (l : List Tag) : Bool := !l.contains t
@[go_sem] theorem ce2 (ts o i j) : C9 ts o (i, j) = aG2 (nin (i, j) ts) (o (i, j)) := by
 unfold C9 aG2 nin
 cases o (i, j) with
 | none => cases ts.contains (i, j) <;> rfl
 | some x =>
  cases x with
  | row r => cases h : ts.contains (i, j) <;> simp [h]
  | map es => cases ts.contains (i, j) <;> rfl
@[go_sem] theorem ce3 (i) : G0 [] i = false := rfl
@[go_sem] theorem bS4 (a b l i) : G0 ((a, b) :: l) i = (decide (a = i) || decide (b = i) || G0 l i) := by
 have h : ∀ x y, Nat.beq x y = decide (x = y) := fun x y => by rw [Bool.eq_iff_iff]; simp [Nat.beq_eq_true_eq]
 simp only [G0, h]
@[go_sem] theorem ce4 {α : Type} (x y : α) : (bif true then x else y) = x := rfl
@[go_sem] theorem bS5 {α : Type} (x y : α) : (bif false then x else y) = y := rfl
section
variable (E : Env) (st : Nat) (ops : Array Oper) (d : Option Tmp) (ty : TypeId) (p : String) (af : Array Edge) (a : n8) (H : AH)
def bA2 (st : Nat) (d : Option Tmp) : List Tag := match d with | some d => [(st, d)] | none => []
@[go_sem] theorem ck6 (st d) : bA2 st (some d) = [(st, d)] := rfl
@[go_sem] theorem ck7 (st) : bA2 st none = [] := rfl
@[go_sem] theorem cJ7 (t x) : z8 E st ops ⟨d, .load t x, ty, p, af, none⟩ a H = ⟨O3 (opd a x), [], false⟩ := rfl
@[go_sem] theorem cD4 (t x y) : z8 E st ops ⟨d, .store t x y, ty, p, af, none⟩ a H = ⟨[], O3 (opd a x), false⟩ := rfl
@[go_sem] theorem cD5 (t) : z8 E st ops ⟨d, .alloc t, ty, p, af, none⟩ a H = ⟨[], bA2 st d, false⟩ := rfl
@[go_sem] theorem cV0 (t x) : z8 E st ops ⟨d, .box t x, ty, p, af, none⟩ a H = ⟨[], bA2 st d, false⟩ := rfl
@[go_sem] theorem bA3 (t n ps) : z8 E st ops ⟨d, .buildSlice t n ps, ty, p, af, none⟩ a H = ⟨[], bA2 st d, false⟩ := rfl
@[go_sem] theorem bL2 (t x y) : z8 E st ops ⟨d, .makeSlice t x y, ty, p, af, none⟩ a H = ⟨[], bA2 st d, false⟩ := rfl
@[go_sem] theorem ce5 (s t x) : z8 E st ops ⟨d, .convert s t x, ty, p, af, none⟩ a H = ⟨O3 (opd a x), bA2 st d, false⟩ := rfl
@[go_sem] theorem ck8 (x y ts) : z8 E st ops ⟨d, .call ⟨.builtin .append, #[x, y], ts⟩, ty, p, af, none⟩ a H = ⟨O3 (opd a y), bA2 st d ++ O3 (opd a x), false⟩ := rfl
@[go_sem] theorem cJ8 (x y ts) : z8 E st ops ⟨d, .call ⟨.builtin .copy, #[x, y], ts⟩, ty, p, af, none⟩ a H = ⟨O3 (opd a y), O3 (opd a x), false⟩ := rfl
@[go_sem] theorem cV1 (x ts) : z8 E st ops ⟨d, .call ⟨.builtin .len, #[x], ts⟩, ty, p, af, none⟩ a H = ⟨O3 (opd a x) ++ [], [], false⟩ := rfl
def ftF (E : Env) (fv : Option AV) (vs : List AV) (o : Ob) (nx : Nat) : FP := match fv with
 | some (.fn (.func g) first captured) =>
  let ts := (first ++ vs ++ captured).flatMap (b9 o n6)
  match E.mode g with
  | .pure true => ⟨ts, [], false⟩
  | .ext true => ⟨ts, [], false⟩
  | .pure false => ⟨ts, ts, false⟩
  | .ext false => ⟨ts, ts, false⟩
  | .raw z => ⟨[], bx0 z g nx, true⟩
 | _ => ⟨[], [], true⟩
@[go_sem] theorem cJ9 (f xs ts) : z8 E st ops ⟨d, .call ⟨.value f, xs, ts⟩, ty, p, af, none⟩ a H = ftF E (opd a f) (xs.toList.filterMap (opd a)) H.o H.nx := rfl
def ftM (m : Mode) (ts : List Tag) (g : FuncId) (nx : Nat) : FP := match m with
 | .pure true => ⟨ts, [], false⟩
 | .ext true => ⟨ts, [], false⟩
 | .pure false => ⟨ts, ts, false⟩
 | .ext false => ⟨ts, ts, false⟩
 | .raw z => ⟨[], bx0 z g nx, true⟩
@[go_sem] theorem cV2 (E : Env) (g f c vs o nx) : ftF E (some (.fn (.func g) f c)) vs o nx = ftM (E.mode g) ((f ++ vs ++ c).flatMap (b9 o n6)) g nx := rfl
@[go_sem] theorem cD6 (ts g nx) : ftM (.ext true) ts g nx = ⟨ts, [], false⟩ := rfl
@[go_sem] theorem ck9 (ts g nx) : ftM (.ext false) ts g nx = ⟨ts, ts, false⟩ := rfl
@[go_sem] theorem cK0 (z ts g nx) : ftM (.raw z) ts g nx = ⟨[], bx0 z g nx, true⟩ := rfl
@[go_sem] theorem ce6 (g n) : bx0 false g n = if aC7 g = true then [(n, 0)] else [] := by
 unfold bx0; simp
attribute [go_sem] aC7
@[go_sem] theorem cl0 (g n) : bx0 true g n = [] := rfl
@[go_sem] theorem cD7 {i n : Nat} (j m) (h : i < n) : below (i, j) (n, m) = true := by unfold below; exact decide_eq_true h
end
@[go_sem] theorem cl1 (v) : O3 (some v) = y8 v := rfl
attribute [go_sem] y8 FP.none_ List.filterMap_cons List.filterMap_nil
@[go_sem] theorem cK1 (t) : nin t [] = true := rfl
@[go_sem] theorem cD8 (i j k m l) : nin (i, j) ((k, m) :: l) = if j = m then (if i = k then false else nin (i, j) l) else nin (i, j) l := by
 unfold nin
 by_cases h1 : j = m <;> by_cases h2 : i = k <;> simp [h1, h2]
@[go_sem] theorem cK2 (r w r' w') : aC3 ⟨r, w, false⟩ ⟨r', w', false⟩ = (w.all (fun t => nin t r' && nin t w') && w'.all (fun t => nin t r)) := rfl
@[go_sem] theorem cl2 (r w r' w') : aC3 ⟨r, w, true⟩ ⟨r', w', false⟩ = (w'.isEmpty && r'.all fun t => w.any (below t)) := rfl
@[go_sem] theorem cl3 (r w r' w') : aC3 ⟨r, w, false⟩ ⟨r', w', true⟩ = (w.isEmpty && r.all fun t => w'.any (below t)) := rfl
def cl4 (x y : Option FP) : Bool := match x, y with | some x, some y => aC3 x y | _, _ => false
@[go_sem] theorem ce7 (x y) : cl4 (some x) (some y) = aC3 x y := rfl
@[go_sem] theorem cl5 (fs) : I0 fs [] = true := rfl
@[go_sem] theorem ce8 (fs i j l) : I0 fs ((i, j) :: l) = (cl4 fs[i]? fs[j]? && I0 fs l) := rfl
attribute [go_sem] List.isEmpty_nil List.isEmpty_cons List.any_cons List.any_nil List.all_cons List.all_nil Bool.or_true Bool.or_false Bool.true_or Bool.and_true Bool.true_and
def az0 (x : Option AObj) : Option (List (AV × AV)) := match x with | some (.map es) => some es | _ => none
@[go_sem] theorem ce9 (es) : az0 (some (.map es)) = some es := rfl
def lkV (ok : Bool) (z : AV) (r : Option AV) : AV := match ok, r with
 | true, some v => .tup [v, .bool true]
 | true, none => .tup [z, .bool false]
 | false, some v => v
 | false, none => z
@[go_sem] theorem cV3 (z v) : lkV true z (some v) = .tup [v, .bool true] := rfl
@[go_sem] theorem cV4 (z) : lkV true z none = .tup [z, .bool false] := rfl
@[go_sem] theorem cV5 (z v) : lkV false z (some v) = v := rfl
@[go_sem] theorem cV6 (z) : lkV false z none = z := rfl
theorem cl6 {P : Program} {t kt et : TypeId} {z k : AV} (h : P.underlying t = some (.map kt et)) (hz : aK3 P et = some z) (hk : aK2 P kt k = true) (m ok o nx) : H9 P t (.mp m) k ok ⟨o, nx⟩ = (az0 (o m)).bind fun es => (J9 k es).map (lkV ok z) := by
 unfold H9 az0
 simp only [h, hz, hk, if_true, ax6]
 cases o m with
 | none => rfl
 | some x =>
  cases x with
  | row r => rfl
  | map es =>
   dsimp only [Option.bind_some]
   cases J9 k es with
   | none => rfl
   | some r => cases r <;> cases ok <;> rfl
def bA4 (tg : Tag) (k v : AV) (o : Ob) (nx : Nat) (es : List (AV × AV)) : Option AH := (J9 k es).map fun _ => ⟨upd o tg (.map (aC6 k v es)), nx⟩
theorem cl7 {P : Program} {t kt et : TypeId} {k : AV} (h : P.underlying t = some (.map kt et)) (hk : aK2 P kt k = true) (m v o nx) : m6 P t (.mp m) k v ⟨o, nx⟩ = (az0 (o m)).bind (bA4 m k v o nx) := by
 unfold m6 az0 bA4
 simp only [h, hk, if_true]
 cases o m with
 | none => rfl
 | some x =>
  cases x with
  | row r => rfl
  | map es =>
   dsimp only [Option.bind_some]
   cases J9 k es <;> rfl
theorem aM7 {k : AV} {es : List (AV × AV)} {r : Option AV} (h : J9 k es = some r) (tg v o nx) : bA4 tg k v o nx es = some ⟨upd o tg (.map (aC6 k v es)), nx⟩ := by unfold bA4; rw [h]; rfl
@[go_sem] theorem cf0 (b es) : aG2 b (some (.map es)) = some (.map es) := by cases b <;> rfl
section
variable {E : Env} {cr : q8} (st : Nat) (ops : Array Oper) (ty : TypeId) (p : String) (af : Array Edge) (l : List Oper) (a : n8) (o : Ob) (nx : Nat) (Q : l8) (H : AH)
@[go_sem] theorem cl8 (d t) : WS E cr st ops (⟨some d, .makeMap t none, ty, p, af, none⟩ :: l) a o nx Q = WS E cr st ops l (put a d (.mp (st, d))) (upd o (st, d) (.map [])) nx Q := by
 rw [D7]; rfl
@[go_sem] theorem cD9 (d t m k ok) : WS E cr st ops (⟨some d, .lookup t m k ok, ty, p, af, none⟩ :: l) a o nx Q = wO ((opd a m).bind fun mv => (opd a k).bind fun kv => H9 E.P t mv kv ok ⟨o, nx⟩) (kV E cr st ops l a d o nx Q) := by
 rw [D7]; unfold wO; simp only [f9]
 cases opd a m with
 | none => rfl
 | some v =>
  simp only [Option.bind_some]
  cases opd a k with
  | none => rfl
  | some u => simp only [Option.bind_some]; cases H9 E.P t v u ok ⟨o, nx⟩ <;> rfl
@[go_sem] theorem bS6 (t m k x) : WS E cr st ops (⟨none, .mapUpdate t m k x, ty, p, af, none⟩ :: l) a o nx Q = wO ((opd a m).bind fun mv => (opd a k).bind fun kv => (opd a x).bind fun vv => m6 E.P t mv kv vv ⟨o, nx⟩) (kS E cr st ops l a Q) := by
 rw [D7]; unfold wO; simp only [f9]
 cases opd a m with
 | none => rfl
 | some v =>
  simp only [Option.bind_some]
  cases opd a k with
  | none => rfl
  | some u =>
   simp only [Option.bind_some]
   cases opd a x with
   | none => rfl
   | some y => simp only [Option.bind_some]; cases m6 E.P t v u y ⟨o, nx⟩ <;> rfl
@[go_sem] theorem cf1 (d t) : z8 E st ops ⟨d, .makeMap t none, ty, p, af, none⟩ a H = ⟨[], bA2 st d, false⟩ := rfl
@[go_sem] theorem cl9 (d t m k ok) : z8 E st ops ⟨d, .lookup t m k ok, ty, p, af, none⟩ a H = ⟨O3 (opd a m), [], false⟩ := rfl
@[go_sem] theorem bL3 (d t m k x) : z8 E st ops ⟨d, .mapUpdate t m k x, ty, p, af, none⟩ a H = ⟨[], O3 (opd a m), false⟩ := rfl
end
end Go.Proofs.YtpmjpogcaglphaaDoor.A
