/- A, part 28: what holds behind a run: rules, one an operation. -/
import Derived.IntWalk
import Derived.Test.YtpmjpogcaglphaaDoorMLMOne2
set_option linter.unusedVariables false
set_option linter.unusedSimpArgs false
set_option linter.unnecessarySimpa false
namespace Go.Proofs.YtpmjpogcaglphaaDoor.A
open Go
abbrev Ob := Tag → Option AObj
abbrev n8 := Out → q8 → Ob → Nat → Prop
def wO {α : Type} (r : Option α) (K : α → Prop) : Prop := match r with | some x => K x | none => False
@[go_sem] theorem cR1 {α : Type} (x : α) (K : α → Prop) : wO (some x) K = K x := rfl
@[go_sem] theorem cR2 {α : Type} (K : α → Prop) : wO none K = False := rfl
section
variable (E : Env) (cr : t8) (k : Nat) (nz : Nat → Option (List (Nat × Nat)))
def WP (c : Code) (a : q8) (o : Ob) (nx : Nat) (Q : n8) : Prop :=
 match z6 E (fun _ _ => none) cr k nz none c a ⟨o, nx⟩ with
 | some (u, a', H') => Q u a' H'.o H'.nx
 | none => False
def aB3 (y : Code) (Q : n8) : n8 := fun u a o nx => match u with
 | .normal => WP E cr k nz y a o nx Q
 | u => Q u a o nx
def M8 (id : Nat) (Q : n8) : n8 := fun u a o nx => match u with
 | .exit id' => if id' = id then Q .normal a o nx else Q (.exit id') a o nx
 | u => Q u a o nx
def wIf (b : Bool) (x y : Code) (a : q8) (o : Ob) (nx : Nat) (Q : n8) : Prop := match b with | true => WP E cr k nz x a o nx Q | false => WP E cr k nz y a o nx Q
def wC (v : Option AV) (x y : Code) (a : q8) (o : Ob) (nx : Nat) (Q : n8) : Prop := match v with | some (.bool b) => wIf E cr k nz b x y a o nx Q | _ => False
def WS (st : Nat) (ops : Array Oper) (l : List Oper) (a : q8) (o : Ob) (nx : Nat) (Q : n8) : Prop :=
 match steps E (fun _ _ => none) cr st ops l a ⟨o, nx⟩ with
 | some (a', H') => Q .normal a' H'.o H'.nx
 | none => False
def WF (st : Nat) (ops : Array Oper) (prs : List (Nat × Nat)) (i : Nat) (l : List Oper) (fs : List FP) (a : q8) (o : Ob) (nx : Nat) (Q : n8) : Prop :=
 match Z7 E (fun _ _ => none) cr st ops (H7 prs) i l a ⟨o, nx⟩ with
 | some (a', H', gs) => J5 (fs ++ gs) prs = true ∧ Q .normal a' H'.o H'.nx
 | none => False
end
section
variable {E : Env} {cr : t8} {k : Nat} {nz : Nat → Option (List (Nat × Nat))}
@[go_sem] theorem aI2 (y : Code) (Q : n8) (a o nx) : aB3 E cr k nz y Q .normal a o nx = WP E cr k nz y a o nx Q := rfl
@[go_sem] theorem cr8 (y : Code) (Q : n8) (a o nx) : aB3 E cr k nz y Q .ret a o nx = Q .ret a o nx := rfl
@[go_sem] theorem cm3 (y : Code) (Q : n8) (i a o nx) : aB3 E cr k nz y Q (.exit i) a o nx = Q (.exit i) a o nx := rfl
@[go_sem] theorem cm4 (y : Code) (Q : n8) (i a o nx) : aB3 E cr k nz y Q (.goto i) a o nx = Q (.goto i) a o nx := rfl
@[go_sem] theorem bG3 (id) (Q : n8) (a o nx) : M8 id Q .normal a o nx = Q .normal a o nx := rfl
@[go_sem] theorem cm5 (id) (Q : n8) (a o nx) : M8 id Q .ret a o nx = Q .ret a o nx := rfl
@[go_sem] theorem bZ1 (id) (Q : n8) (l a o nx) : M8 id Q (.goto l) a o nx = Q (.goto l) a o nx := rfl
@[go_sem] theorem bZ2 (id id') (Q : n8) (a o nx) : M8 id Q (.exit id') a o nx = if id' = id then Q .normal a o nx else Q (.exit id') a o nx := rfl
theorem V5 {c : Code} {a : q8} {o : Ob} {nx : Nat} {Q Q' : n8} (h : WP E cr k nz c a o nx Q) (hq : ∀ u a o nx, Q u a o nx → Q' u a o nx) : WP E cr k nz c a o nx Q' := by
 unfold WP at h ⊢
 split at h
 ·exact hq _ _ _ _ h
 ·exact h.elim
@[go_sem] theorem cJ3 (x y a o nx) (Q : n8) : wIf E cr k nz true x y a o nx Q = WP E cr k nz x a o nx Q := rfl
@[go_sem] theorem bn8 (x y a o nx) (Q : n8) : wIf E cr k nz false x y a o nx Q = WP E cr k nz y a o nx Q := rfl
@[go_sem] theorem cR3 (b x y a o nx) (Q : n8) : wIf E cr k nz (!b) x y a o nx Q = wIf E cr k nz b y x a o nx Q := by cases b <;> rfl
@[go_sem] theorem cm6 (p : Prop) [Decidable p] (x y a o nx) (Q : n8) : wIf E cr k nz (decide p) x y a o nx Q = wIf E cr k nz (if p then true else false) x y a o nx Q := by
 by_cases h : p <;> simp [h]
@[go_sem] theorem bZ3 (b x y a o nx) (Q : n8) : wC E cr k nz (some (.bool b)) x y a o nx Q = wIf E cr k nz b x y a o nx Q := rfl
@[go_sem] theorem bZ4 (a o nx) (Q : n8) : WP E cr k nz .skip a o nx Q = Q .normal a o nx := rfl
@[go_sem] theorem dd5 (a o nx) (Q : n8) : WP E cr k nz .ret a o nx Q = Q .ret a o nx := rfl
@[go_sem] theorem cR4 (i a o nx) (Q : n8) : WP E cr k nz (.exit i) a o nx Q = Q (.exit i) a o nx := rfl
@[go_sem] theorem cR5 (i a o nx) (Q : n8) : WP E cr k nz (.goto i) a o nx Q = Q (.goto i) a o nx := rfl
@[go_sem] theorem cJ4 (i a o nx) (Q : n8) : WP E cr k nz (.label i) a o nx Q = Q .normal a o nx := rfl
@[go_sem] theorem dd6 (x y : Code) (a o nx) (Q : n8) : WP E cr k nz (.seq x y) a o nx Q = WP E cr k nz x a o nx (aB3 E cr k nz y Q) := by
 unfold WP
 simp only [z6]
 cases z6 E (fun _ _ => none) cr k nz none x a ⟨o, nx⟩ with
 | none => rfl
 | some p =>
  obtain ⟨u, a', H'⟩ := p
  cases u <;> rfl
@[go_sem] theorem cJ5 (id : Nat) (c : Code) (a o nx) (Q : n8) : WP E cr k nz (.block id c) a o nx Q = WP E cr k nz c a o nx (M8 id Q) := by
 unfold WP
 simp only [z6]
 cases z6 E (fun _ _ => none) cr k nz none c a ⟨o, nx⟩ with
 | none => rfl
 | some p =>
  obtain ⟨u, a', H'⟩ := p
  cases u with
  | exit id' =>
   dsimp only [M8]
   by_cases h : id' = id <;> simp [h]
  | _ => rfl
@[go_sem] theorem bZ5 (c : Operand) (x y : Code) (a o nx) (Q : n8) : WP E cr k nz (.cond c x y) a o nx Q = wC E cr k nz (opd a c) x y a o nx Q := by
 unfold wC wIf WP
 simp only [z6]
 cases opd a c with
 | none => rfl
 | some v => cases v with
  | bool b => cases b <;> rfl
  | _ => rfl
@[go_sem] theorem bn9 (id : Nat) (ops : List Oper) (a o nx) (Q : n8) : WP E cr k nz (.region id ⟨ops⟩ false) a o nx Q = WS E cr nx ⟨ops⟩ ops a o (nx + 1) Q := by
 unfold WP WS
 simp only [z6, aB2]
 cases steps E (fun _ _ => none) cr nx ⟨ops⟩ ops a ⟨o, nx + 1⟩ <;> rfl
def aW4 (E : Env) (cr : t8) (prs : Option (List (Nat × Nat))) (ops : List Oper) (a : q8) (o : Ob) (nx : Nat) (Q : n8) : Prop := match prs with | none => WS E cr nx ⟨ops⟩ ops a o (nx + 1) Q | some l => WF E cr nx ⟨ops⟩ l 0 ops [] a o (nx + 1) Q
@[go_sem] theorem bZ6 (ops a o nx) (Q : n8) : aW4 E cr none ops a o nx Q = WS E cr nx ⟨ops⟩ ops a o (nx + 1) Q := rfl
@[go_sem] theorem bZ7 (l ops a o nx) (Q : n8) : aW4 E cr (some l) ops a o nx Q = WF E cr nx ⟨ops⟩ l 0 ops [] a o (nx + 1) Q := rfl
@[go_sem] theorem bo0 (id : Nat) (ops : List Oper) (a o nx) (Q : n8) : WP E cr k nz (.region id ⟨ops⟩ true) a o nx Q = aW4 E cr (nz id) ops a o nx Q := by
 unfold WP aW4 WS WF
 simp only [z6, aB2]
 cases nz id with
 | none =>
  dsimp only
  cases steps E (fun _ _ => none) cr nx ⟨ops⟩ ops a ⟨o, nx + 1⟩ <;> rfl
 | some prs =>
  dsimp only
  cases Z7 E (fun _ _ => none) cr nx ⟨ops⟩ (H7 prs) 0 ops a ⟨o, nx + 1⟩ with
  | none => rfl
  | some p =>
   obtain ⟨a', H', gs⟩ := p
   dsimp only
   rw [List.nil_append]
   cases J5 gs prs <;> simp
theorem aq6 {c : Code} {Q : n8} (I : Nat → q8 → Ob → Nat → Prop) (step : ∀ m a o nx, I m a o nx → WP E cr k nz c a o nx (fun u a' o' nx' => match u with | .normal => ∃ m', m' < m ∧ I m' a' o' nx' | u => Q u a' o' nx')) :
  ∀ (n m : Nat), m < n → ∀ a o nx, I m a o nx → match bk3 (z6 E (fun _ _ => none) cr k nz none c) n a ⟨o, nx⟩ with | some (u, a', H') => Q u a' H'.o H'.nx | none => False
 | 0, m, h, _, _, _, _ => by omega
 | n + 1, m, h, a, o, nx, hI => by
  have hs := step m a o nx hI
  unfold WP at hs
  unfold bk3
  cases he : z6 E (fun _ _ => none) cr k nz none c a ⟨o, nx⟩ with
  | none => rw [he] at hs; exact hs.elim
  | some p =>
   obtain ⟨u, a', H'⟩ := p
   rw [he] at hs
   cases u with
   | normal =>
    obtain ⟨m', h1, h2⟩ := hs
    exact aq6 I step n m' (by omega) a' H'.o H'.nx h2
   | _ => exact hs
def aI3 (I : Nat → q8 → Ob → Nat → Prop) (m : Nat) (Q : n8) : n8 := fun u a' o' nx' => match u with
 | .normal => ∃ m', m' < m ∧ I m' a' o' nx'
 | u => Q u a' o' nx'
@[go_sem] theorem bG4 (I m) (Q : n8) (a o nx) : aI3 I m Q .normal a o nx = ∃ m', m' < m ∧ I m' a o nx := rfl
@[go_sem] theorem cm7 (I m) (Q : n8) (a o nx) : aI3 I m Q .ret a o nx = Q .ret a o nx := rfl
@[go_sem] theorem bZ8 (I m) (Q : n8) (i a o nx) : aI3 I m Q (.exit i) a o nx = Q (.exit i) a o nx := rfl
@[go_sem] theorem bZ9 (I m) (Q : n8) (i a o nx) : aI3 I m Q (.goto i) a o nx = Q (.goto i) a o nx := rfl
theorem p9 {c : Code} {Q : n8} (I : Nat → q8 → Ob → Nat → Prop) (m : Nat) (hm : m < k) {a : q8} {o : Ob} {nx : Nat} (h0 : I m a o nx)
  (step : ∀ m a o nx, I m a o nx → WP E cr k nz c a o nx (aI3 I m Q)) : WP E cr k nz (.loop c) a o nx Q := by
 unfold WP
 simp only [z6]
 refine aq6 I (fun m a o nx h => V5 (step m a o nx h) ?_) k m hm a o nx h0
 intro u a o nx h
 cases u <;> exact h
@[go_sem] theorem cr9 (st ops a o nx) (Q : n8) : WS E cr st ops [] a o nx Q = Q .normal a o nx := rfl
theorem aB4 (st ops x l a o nx) (Q : n8) : WS E cr st ops (x :: l) a o nx Q = wO (R9 E (fun _ _ => none) cr st ops x a ⟨o, nx⟩) (fun p => WS E cr st ops l p.1 p.2.o p.2.nx Q) := by
 unfold WS wO
 simp only [steps]
 cases R9 E (fun _ _ => none) cr st ops x a ⟨o, nx⟩ <;> rfl
theorem F4 (st ops d op ty p af l a o nx) (Q : n8) : WS E cr st ops (⟨d, op, ty, p, af, none⟩ :: l) a o nx Q = wO (j7 E (fun _ _ => none) cr st ⟨d, op, ty, p, af, none⟩ a ⟨o, nx⟩) (fun q => WS E cr st ops l (L6 a d q.1) q.2.o q.2.nx Q) := by
 rw [aB4]
 unfold wO
 simp only [R9, A5]
 cases j7 E (fun _ _ => none) cr st ⟨d, op, ty, p, af, none⟩ a ⟨o, nx⟩ <;> rfl
def ca0 (E : Env) (cr : t8) (b : Bool) (st : Nat) (ops : Array Oper) (x : Oper) (l : List Oper) (a : q8) (o : Ob) (nx : Nat) (Q : n8) : Prop := match b with | true => WS E cr st ops (x :: l) a o nx Q | false => WS E cr st ops l (L6 a x.dst noV) o nx Q
def wG (E : Env) (cr : t8) (y : Option (Option Bool)) (want : Bool) (st : Nat) (ops : Array Oper) (x : Oper) (l : List Oper) (a : q8) (o : Ob) (nx : Nat) (Q : n8) : Prop := match y with | none => False | some none => WS E cr st ops l (L6 a x.dst noV) o nx Q | some (some b) => ca0 E cr (b == want) st ops x l a o nx Q
@[go_sem] theorem cR6 (w st ops d op ty p af g l a o nx) (Q : n8) : wG E cr (some none) w st ops ⟨d, op, ty, p, af, g⟩ l a o nx Q = WS E cr st ops l (L6 a d noV) o nx Q := rfl
@[go_sem] theorem cR7 (b st ops x l a o nx) (Q : n8) : wG E cr (some (some b)) true st ops x l a o nx Q = ca0 E cr b st ops x l a o nx Q := by cases b <;> rfl
@[go_sem] theorem cJ6 (b st ops x l a o nx) (Q : n8) : wG E cr (some (some b)) false st ops x l a o nx Q = ca0 E cr (!b) st ops x l a o nx Q := by cases b <;> rfl
@[go_sem] theorem cs0 (st ops x l a o nx) (Q : n8) : ca0 E cr true st ops x l a o nx Q = WS E cr st ops (x :: l) a o nx Q := rfl
@[go_sem] theorem cm8 (st ops d op ty p af g l a o nx) (Q : n8) : ca0 E cr false st ops ⟨d, op, ty, p, af, g⟩ l a o nx Q = WS E cr st ops l (L6 a d noV) o nx Q := rfl
@[go_sem] theorem ca3 (p : Prop) [Decidable p] (st ops x l a o nx) (Q : n8) : ca0 E cr (decide p) st ops x l a o nx Q = ca0 E cr (if p then true else false) st ops x l a o nx Q := by
 by_cases h : p <;> simp [h]
@[go_sem] theorem cJ7 (st ops d op ty p af j want l a o nx) (Q : n8) : WS E cr st ops (⟨d, op, ty, p, af, some (j, want)⟩ :: l) a o nx Q = wG E cr (E1 ops a j) want st ops ⟨d, op, ty, p, af, none⟩ l a o nx Q := by
 rw [aB4]
 unfold wG
 cases hy : E1 ops a j with
 | none => unfold R9 A5 wO; simp only [hy, Option.map_none]
 | some y =>
  cases y with
  | none => unfold R9 A5 wO; simp only [hy, Option.map_some]; rfl
  | some b =>
   have h1 : R9 E (fun _ _ => none) cr st ops ⟨d, op, ty, p, af, some (j, want)⟩ a ⟨o, nx⟩ = (match some (some b == some want) with | some true => (j7 E (fun _ _ => none) cr st ⟨d, op, ty, p, af, none⟩ a ⟨o, nx⟩).map fun p => (L6 a d p.1, p.2) | some false => some (L6 a d noV, ⟨o, nx⟩) | none => none) := by
    unfold R9 A5
    simp only [hy, Option.map_some]
    rfl
   have h2 : R9 E (fun _ _ => none) cr st ops ⟨d, op, ty, p, af, none⟩ a ⟨o, nx⟩ = (j7 E (fun _ _ => none) cr st ⟨d, op, ty, p, af, none⟩ a ⟨o, nx⟩).map fun p => (L6 a d p.1, p.2) := rfl
   cases b <;> cases want
   ·show wO _ _ = WS E cr st ops (_ :: l) a o nx Q
    rw [aB4, h2, h1]
    rfl
   ·rw [h1]; rfl
   ·rw [h1]; rfl
   ·show wO _ _ = WS E cr st ops (_ :: l) a o nx Q
    rw [aB4, h2, h1]
    rfl
def yv (v : AV) : Option (Option Bool) := match v with | .bool b => some (some b) | .und => none | .mp _ => none | _ => some none
@[go_sem] theorem cR8 (b : Bool) : yv (.bool b) = some (some b) := rfl
@[go_sem] theorem dd7 (l) : yv (.tup l) = some none := rfl
@[go_sem] theorem dd8 (k n) : yv (.int k n) = some none := rfl
def ca4 (o : Option Oper) (a : q8) : Option (Option Bool) := match o with | some ⟨some d, _, _, _, _, _⟩ => yv (a d) | _ => some none
@[go_sem] theorem cm9 (d op ty p af g a) : ca4 (some ⟨some d, op, ty, p, af, g⟩) a = yv (a d) := rfl
@[go_sem] theorem cn0 (ops : List Oper) (a : q8) (j : Nat) : E1 ⟨ops⟩ a j = ca4 ops[j]? a := by
 unfold E1 ca4
 rw [List.getElem?_toArray]
 cases ops[j]? with
 | none => rfl
 | some x =>
  obtain ⟨d, op, ty, p, af, g⟩ := x
  cases d with
  | none => rfl
  | some d => rfl
def ca5 (E : Env) (cr : t8) (st : Nat) (ops : Array Oper) (prs : List (Nat × Nat)) (i : Nat) (l : List Oper) (fs : List FP) (Q : n8) : n8 := fun _ a o nx => WF E cr st ops prs i l fs a o nx Q
@[go_sem] theorem cJ8 (st ops prs i l fs) (Q : n8) (u a o nx) : ca5 E cr st ops prs i l fs Q u a o nx = WF E cr st ops prs i l fs a o nx Q := rfl
@[go_sem] theorem cR9 (st ops prs i x l fs a o nx) (Q : n8) : WF E cr st ops prs i (x :: l) fs a o nx Q = WS E cr st ops [x] a o nx (ca5 E cr st ops prs (i + 1) l (fs ++ [bif H7 prs i then A9 E st ops x a ⟨o, nx⟩ else FP.none_]) Q) := by
 unfold WF WS ca5 WF
 simp only [Z7, steps]
 cases R9 E (fun _ _ => none) cr st ops x a ⟨o, nx⟩ with
 | none => rfl
 | some p =>
  obtain ⟨a', H'⟩ := p
  dsimp only
  cases Z7 E (fun _ _ => none) cr st ops (H7 prs) (i + 1) l a' H' with
  | none => rfl
  | some q =>
   obtain ⟨a2, H2, gs⟩ := q
   dsimp only
   rw [List.append_assoc]
   cases H7 prs i <;> rfl
@[go_sem] theorem dd9 (st ops prs i fs a o nx) (Q : n8) : WF E cr st ops prs i [] fs a o nx Q = (J5 fs prs = true ∧ Q .normal a o nx) := by
 unfold WF
 simp only [Z7, List.append_nil]
def kV (E : Env) (cr : t8) (st : Nat) (ops : Array Oper) (l : List Oper) (a : q8) (d : Nat) (o : Ob) (nx : Nat) (Q : n8) (v : AV) : Prop := WS E cr st ops l (put a d v) o nx Q
def kH (E : Env) (cr : t8) (st : Nat) (ops : Array Oper) (l : List Oper) (a : q8) (d : Option Nat) (Q : n8) (q : AV × AH) : Prop := WS E cr st ops l (L6 a d q.1) q.2.o q.2.nx Q
def kS (E : Env) (cr : t8) (st : Nat) (ops : Array Oper) (l : List Oper) (a : q8) (Q : n8) (H : AH) : Prop := WS E cr st ops l a H.o H.nx Q
def kA (E : Env) (cr : t8) (st : Nat) (ops : Array Oper) (l : List Oper) (a : q8) (d : Nat) (e : TypeId) (o : Ob) (nx : Nat) (Q : n8) (z : List AV) : Prop := WS E cr st ops l (put a d (.ptr (st, d) (st, d) 0)) (upd o (st, d) (.row ⟨e, 1, (st, d), false, true, z⟩)) nx Q
def aP5 (cs : List AV) : Option (List AV) := if cs.all p8 = true then some cs else none
@[go_sem] theorem cn1 (cs) : aP5 cs = if cs.all p8 = true then some cs else none := rfl
@[go_sem] theorem dr6 (st ops l a d o nx) (Q : n8) (v) : kV E cr st ops l a d o nx Q v = WS E cr st ops l (put a d v) o nx Q := rfl
@[go_sem] theorem cS0 (st ops l a d) (Q : n8) (v o nx) : kH E cr st ops l a d Q (v, ⟨o, nx⟩) = WS E cr st ops l (L6 a d v) o nx Q := rfl
@[go_sem] theorem dr7 (st ops l a) (Q : n8) (o nx) : kS E cr st ops l a Q ⟨o, nx⟩ = WS E cr st ops l a o nx Q := rfl
@[go_sem] theorem dr8 (st ops l a d e o nx) (Q : n8) (z) : kA E cr st ops l a d e o nx Q z = WS E cr st ops l (put a d (.ptr (st, d) (st, d) 0)) (upd o (st, d) (.row ⟨e, 1, (st, d), false, true, z⟩)) nx Q := rfl
section
variable (st : Nat) (ops : Array Oper) (ty : TypeId) (p : String) (af : Array Edge) (l : List Oper) (a : q8) (o : Ob) (nx : Nat) (Q : n8)
@[go_sem] theorem de0 (d x) : WS E cr st ops (⟨some d, .move x, ty, p, af, none⟩ :: l) a o nx Q = wO (opd a x) (kV E cr st ops l a d o nx Q) := by
 rw [F4]; unfold wO; simp only [j7]; cases opd a x <;> rfl
@[go_sem] theorem cJ9 (d x) : WS E cr st ops (⟨some d, .assign x, ty, p, af, none⟩ :: l) a o nx Q = wO (opd a x) (kV E cr st ops l a d o nx Q) := by
 rw [F4]; unfold wO; simp only [j7]; cases opd a x <;> rfl
def av3 (c x y : Option AV) : Option AV := match c with | some (.bool true) => x | some (.bool false) => y | _ => none
@[go_sem] theorem cn2 (x y) : av3 (some (.bool true)) x y = x := rfl
@[go_sem] theorem ca6 (x y) : av3 (some (.bool false)) x y = y := rfl
@[go_sem] theorem bV4 (b : Bool) (x : Bool) : av3 (some (.bool b)) (some (.bool x)) (some (.bool false)) = some (.bool (b && x)) := by cases b <;> rfl
@[go_sem] theorem ca7 (b : Bool) (x : Bool) : av3 (some (.bool b)) (some (.bool true)) (some (.bool x)) = some (.bool (b || x)) := by cases b <;> rfl
@[go_sem] theorem cn3 (p : Prop) [Decidable p] (y) : av3 (some (.bool (decide p))) (some noV) y = av3 (some (.bool (if p then true else false))) (some noV) y := by
 by_cases h : p <;> simp [h]
@[go_sem] theorem cn4 (p : Prop) [Decidable p] (y) : av3 (some (.bool (decide p))) y (some noV) = av3 (some (.bool (if p then true else false))) y (some noV) := by
 by_cases h : p <;> simp [h]
@[go_sem] theorem cS1 (p q : Prop) [Decidable p] [Decidable q] : (decide p && decide q) = decide (p ∧ q) := (Bool.decide_and p q).symm
@[go_sem] theorem de1 (p q : Prop) [Decidable p] [Decidable q] : (decide p || decide q) = decide (p ∨ q) := (Bool.decide_or p q).symm
@[go_sem] theorem cS2 (p : Prop) [Decidable p] : (!decide p) = decide (¬ p) := decide_not.symm
@[go_sem] theorem de2 (d c x y) : WS E cr st ops (⟨some d, .pick c x y, ty, p, af, none⟩ :: l) a o nx Q = wO (av3 (opd a c) (opd a x) (opd a y)) (kV E cr st ops l a d o nx Q) := by
 rw [F4]; unfold wO av3; simp only [j7]
 cases opd a c with
 | none => rfl
 | some v => cases v with
  | bool b =>
   cases b with
   | true => cases opd a x <;> rfl
   | false => cases opd a y <;> rfl
  | _ => rfl
@[go_sem] theorem cS3 (d e) : WS E cr st ops (⟨some d, .alloc e, ty, p, af, none⟩ :: l) a o nx Q = wO (G5 E.P e) (kA E cr st ops l a d e o nx Q) := by
 rw [F4]; unfold wO; simp only [j7]; cases G5 E.P e <;> rfl
@[go_sem] theorem dr9 (d e x) : WS E cr st ops (⟨some d, .box e x, ty, p, af, none⟩ :: l) a o nx Q = wO ((opd a x).bind fun v => aP5 v.cells) (kA E cr st ops l a d e o nx Q) := by
 rw [F4]; unfold wO; simp only [j7]
 cases opd a x with
 | none => rfl
 | some v =>
  dsimp only [Option.bind_some, aP5]
  cases h : v.cells.all p8 <;> rfl
@[go_sem] theorem cS4 (d t ps) : WS E cr st ops (⟨some d, .build t ps, ty, p, af, none⟩ :: l) a o nx Q = wO ((B8 a ps.toList).bind (E5 E.P t)) (kV E cr st ops l a d o nx Q) := by
 rw [F4]; unfold wO; simp only [j7]
 cases B8 a ps.toList with
 | none => rfl
 | some v => simp only [Option.bind_some]; cases E5 E.P t v <;> rfl
@[go_sem] theorem bV5 (d t n ps) : WS E cr st ops (⟨some d, .buildSlice t n ps, ty, p, af, none⟩ :: l) a o nx Q = wO ((B8 a ps.toList).bind fun qs => m8 E.P (st, d) t n qs ⟨o, nx⟩) (kH E cr st ops l a (some d) Q) := by
 rw [F4]; unfold wO; simp only [j7, af9]; cases (B8 a ps.toList).bind fun qs => m8 E.P (st, d) t n qs ⟨o, nx⟩ <;> rfl
@[go_sem] theorem de3 (d t x) : WS E cr st ops (⟨some d, .load t x, ty, p, af, none⟩ :: l) a o nx Q = wO ((opd a x).bind fun v => P6 E.P t v ⟨o, nx⟩) (kV E cr st ops l a d o nx Q) := by
 rw [F4]; unfold wO; simp only [j7]
 cases opd a x with
 | none => rfl
 | some v => simp only [Option.bind_some]; cases P6 E.P t v ⟨o, nx⟩ <;> rfl
@[go_sem] theorem cS5 (t x y) : WS E cr st ops (⟨none, .store t x y, ty, p, af, none⟩ :: l) a o nx Q = wO ((opd a x).bind fun pv => (opd a y).bind fun v => I7 E.P t pv v ⟨o, nx⟩) (kS E cr st ops l a Q) := by
 rw [F4]; unfold wO; simp only [j7]
 cases opd a x with
 | none => rfl
 | some v =>
  simp only [Option.bind_some]
  cases opd a y with
  | none => rfl
  | some u => simp only [Option.bind_some]; cases I7 E.P t v u ⟨o, nx⟩ <;> rfl
def cK0 (v : AV) : Option AV := match v with | .ptr k g off => some (.ptr k g off) | .fptr cs => some (.fptr cs) | .fn (.func f) first captured => some (.fn (.func f) first captured) | _ => none
@[go_sem] theorem cK1 (k g off) : cK0 (.ptr k g off) = some (.ptr k g off) := rfl
@[go_sem] theorem cs1 (cs) : cK0 (.fptr cs) = some (.fptr cs) := rfl
@[go_sem] theorem cS6 (f x y) : cK0 (.fn (.func f) x y) = some (.fn (.func f) x y) := rfl
@[go_sem] theorem cn5 (d x) : WS E cr st ops (⟨some d, .nilCheck x, ty, p, af, none⟩ :: l) a o nx Q = wO ((opd a x).bind cK0) (kV E cr st ops l a d o nx Q) := by
 rw [F4]; unfold wO; simp only [j7]
 cases opd a x with
 | none => rfl
 | some v =>
  simp only [Option.bind_some]
  cases v with
  | fn f x y => cases f <;> rfl
  | _ => rfl
@[go_sem] theorem cS7 (d op t x y t') : WS E cr st ops (⟨some d, .binOp op t x y t', ty, p, af, none⟩ :: l) a o nx Q = wO ((opd a x).bind fun u => (opd a y).bind fun v => J8 E.P op t u v) (kV E cr st ops l a d o nx Q) := by
 rw [F4]; unfold wO; simp only [j7]
 cases opd a x with
 | none => rfl
 | some v =>
  simp only [Option.bind_some]
  cases opd a y with
  | none => rfl
  | some u => simp only [Option.bind_some]; cases J8 E.P op t v u <;> rfl
@[go_sem] theorem de4 (d op t x) : WS E cr st ops (⟨some d, .unOp op t x, ty, p, af, none⟩ :: l) a o nx Q = wO ((opd a x).bind (aUn op)) (kV E cr st ops l a d o nx Q) := by
 rw [F4]; unfold wO; simp only [j7]
 cases opd a x with
 | none => rfl
 | some v => simp only [Option.bind_some]; cases aUn op v <;> rfl
@[go_sem] theorem cs2 (d s t x) : WS E cr st ops (⟨some d, .convert s t x, ty, p, af, none⟩ :: l) a o nx Q = wO ((opd a x).bind fun u => f8 E.P (st, d) s t u ⟨o, nx⟩) (kH E cr st ops l a (some d) Q) := by
 rw [F4]; unfold wO; simp only [j7, af9]; cases (opd a x).bind fun u => f8 E.P (st, d) s t u ⟨o, nx⟩ <;> rfl
def cS8 (fn : Fn) (f c : Option (List AV)) : Option AV := match f, c with | some f, some c => some (.fn fn f c) | _, _ => none
@[go_sem] theorem cs3 (fn f c) : cS8 fn (some f) (some c) = some (.fn fn f c) := rfl
@[go_sem] theorem cn6 (d fn f c) : WS E cr st ops (⟨some d, .makeFunc fn f c, ty, p, af, none⟩ :: l) a o nx Q = wO (cS8 fn (U6 a f.toList) (U6 a c.toList)) (kV E cr st ops l a d o nx Q) := by
 rw [F4]; unfold wO cS8; simp only [j7]
 cases U6 a f.toList with
 | none => rfl
 | some v => cases U6 a c.toList <;> rfl
@[go_sem] theorem ca8 (d t x y) : WS E cr st ops (⟨some d, .makeSlice t x y, ty, p, af, none⟩ :: l) a o nx Q = wO ((ab8 a x).bind fun lv => (ab8 a y).bind fun cv => r8 E.P (st, d) t lv cv ⟨o, nx⟩) (kH E cr st ops l a (some d) Q) := by
 rw [F4]; unfold wO; simp only [j7, af9]; cases (ab8 a x).bind fun lv => (ab8 a y).bind fun cv => r8 E.P (st, d) t lv cv ⟨o, nx⟩ <;> rfl
@[go_sem] theorem cS9 (d t x lo hi) : WS E cr st ops (⟨some d, .slice t x lo hi none, ty, p, af, none⟩ :: l) a o nx Q = wO ((opd a x).bind fun v => (aF0 a lo).bind fun l => (aF0 a hi).bind fun h => U5 E.P t v l h) (kV E cr st ops l a d o nx Q) := by
 rw [F4]; unfold wO; simp only [j7]
 cases opd a x with
 | none => rfl
 | some v =>
  simp only [Option.bind_some]
  cases aF0 a lo with
  | none => rfl
  | some u =>
   simp only [Option.bind_some]
   cases aF0 a hi with
   | none => rfl
   | some h => simp only [Option.bind_some]; cases U5 E.P t v u h <;> rfl
def d8 (P : Program) (t : TypeId) (f : Nat) (v : AV) : Option AV := match v, G6 P t f with
 | .ptr k g off, some (o', ft) => if (n6 P ft).getD 0 = 0 then none else some (.ptr k g (off + o'))
 | .fptr cs, some (o', ft) => if (n6 P ft).getD 0 = 0 then none else some (.fptr (cs.drop o'))
 | _, _ => none
def aI4 (P : Program) (t : TypeId) (f : Nat) (v : AV) : Option AV := match v, G6 P t f with
 | .agg cs, some (o', ft) => Q7 P ft (cs.drop o')
 | _, _ => none
@[go_sem] theorem ca9 (d t x f) : WS E cr st ops (⟨some d, .fieldAddr t x f, ty, p, af, none⟩ :: l) a o nx Q = wO ((opd a x).bind (d8 E.P t f)) (kV E cr st ops l a d o nx Q) := by
 rw [F4]; unfold wO; simp only [j7]
 cases opd a x with
 | none => rfl
 | some v =>
  simp only [Option.bind_some, d8]
  cases v with
  | ptr k g off =>
   cases G6 E.P t f with
   | none => rfl
   | some q =>
    dsimp only
    by_cases h : (n6 E.P q.2).getD 0 = 0 <;> simp [h, L6, kV]
  | fptr cs =>
   cases G6 E.P t f with
   | none => rfl
   | some q =>
    dsimp only
    by_cases h : (n6 E.P q.2).getD 0 = 0 <;> simp [h, L6, kV]
  | _ => rfl
@[go_sem] theorem cT0 (d t x f) : WS E cr st ops (⟨some d, .field t x f, ty, p, af, none⟩ :: l) a o nx Q = wO ((opd a x).bind (aI4 E.P t f)) (kV E cr st ops l a d o nx Q) := by
 rw [F4]; unfold wO; simp only [j7]
 cases opd a x with
 | none => rfl
 | some v =>
  simp only [Option.bind_some, aI4]
  cases v with
  | agg cs =>
   cases G6 E.P t f with
   | none => rfl
   | some q => dsimp only; cases Q7 E.P q.2 (cs.drop q.1) <;> rfl
  | _ => rfl
@[go_sem] theorem cb0 (d t x i) : WS E cr st ops (⟨some d, .indexAddr t x i, ty, p, af, none⟩ :: l) a o nx Q = wO ((opd a x).bind fun v => (ab8 a i).bind fun j => j5 E.P t v j) (kV E cr st ops l a d o nx Q) := by
 rw [F4]; unfold wO; simp only [j7]
 cases opd a x with
 | none => rfl
 | some v =>
  simp only [Option.bind_some]
  cases ab8 a i with
  | none => rfl
  | some u => simp only [Option.bind_some]; cases j5 E.P t v u <;> rfl
@[go_sem] theorem cT1 (d t x i) : WS E cr st ops (⟨some d, .index t x i, ty, p, af, none⟩ :: l) a o nx Q = wO ((opd a x).bind fun v => (ab8 a i).bind fun j => T5 E.P t v j) (kV E cr st ops l a d o nx Q) := by
 rw [F4]; unfold wO; simp only [j7]
 cases opd a x with
 | none => rfl
 | some v =>
  simp only [Option.bind_some]
  cases ab8 a i with
  | none => rfl
  | some u => simp only [Option.bind_some]; cases T5 E.P t v u <;> rfl
def aB5 (i : Nat) (v : AV) : Option AV := match v with | .tup vs => vs[i]? | _ => none
@[go_sem] theorem bV6 (i vs) : aB5 i (.tup vs) = vs[i]? := rfl
@[go_sem] theorem cs4 (d t i) : WS E cr st ops (⟨some d, .extract t i, ty, p, af, none⟩ :: l) a o nx Q = wO ((opd a t).bind (aB5 i)) (kV E cr st ops l a d o nx Q) := by
 rw [F4]; unfold wO; simp only [j7]
 cases opd a t with
 | none => rfl
 | some v =>
  simp only [Option.bind_some, aB5]
  cases v with
  | tup vs => dsimp only; cases vs[i]? <;> rfl
  | _ => rfl
@[go_sem] theorem ds0 (d x t) : WS E cr st ops (⟨some d, .call ⟨.builtin .len, #[x], #[t]⟩, ty, p, af, none⟩ :: l) a o nx Q = wO ((opd a x).bind (O6 E.P o t)) (kV E cr st ops l a d o nx Q) := by
 rw [F4]; unfold wO; simp only [j7, U6]
 cases opd a x with
 | none => rfl
 | some v =>
  simp only [Option.bind_some]
  rw [if_pos (by exact Nat.succ_pos _)]
  simp only [Array.getD_eq_getD_getElem?, List.getElem?_toArray, List.getElem?_cons_zero, Option.getD_some]
  cases O6 E.P o t v <;> rfl
@[go_sem] theorem cK2 (d x y t t') : WS E cr st ops (⟨some d, .call ⟨.builtin .append, #[x, y], #[t, t']⟩, ty, p, af, none⟩ :: l) a o nx Q = wO ((opd a x).bind fun u => (opd a y).bind fun v => w6 E.P (st, d) t t' u v ⟨o, nx⟩) (kH E cr st ops l a (some d) Q) := by
 rw [F4]; unfold wO; simp only [j7, U6, af9]
 cases opd a x with
 | none => rfl
 | some u =>
  simp only [Option.bind_some]
  cases opd a y with
  | none => rfl
  | some v =>
   simp only [Option.bind_some]
   rw [if_pos (by rfl)]
   simp only [Array.getD_eq_getD_getElem?, List.getElem?_toArray, List.getElem?_cons_zero, List.getElem?_cons_succ, Option.getD_some]
   cases w6 E.P (st, d) t t' u v ⟨o, nx⟩ <;> rfl
@[go_sem] theorem de5 (d x y t t') : WS E cr st ops (⟨d, .call ⟨.builtin .copy, #[x, y], #[t, t']⟩, ty, p, af, none⟩ :: l) a o nx Q = wO ((opd a x).bind fun u => (opd a y).bind fun v => R8 E.P t u v ⟨o, nx⟩) (kH E cr st ops l a d Q) := by
 rw [F4]; unfold wO; simp only [j7, U6]
 cases opd a x with
 | none => rfl
 | some u =>
  simp only [Option.bind_some]
  cases opd a y with
  | none => rfl
  | some v =>
   simp only [Option.bind_some]
   rw [if_pos (by exact Nat.succ_pos _)]
   simp only [Array.getD_eq_getD_getElem?, List.getElem?_toArray, List.getElem?_cons_zero, Option.getD_some]
   cases R8 E.P t u v ⟨o, nx⟩ <;> rfl
@[go_sem] theorem ds1 (d x y t t') : WS E cr st ops (⟨some d, .call ⟨.builtin .max, #[x, y], #[t, t']⟩, ty, p, af, none⟩ :: l) a o nx Q = wO ((opd a x).bind fun u => (opd a y).bind fun v => cr3 [u, v]) (kV E cr st ops l a d o nx Q) := by
 rw [F4]; unfold wO; simp only [j7, U6]
 cases opd a x with
 | none => rfl
 | some u =>
  simp only [Option.bind_some]
  cases opd a y with
  | none => rfl
  | some v => simp only [Option.bind_some]; cases cr3 [u, v] <;> rfl
@[go_sem] theorem ds2 (d x y t t') : WS E cr st ops (⟨some d, .call ⟨.builtin .min, #[x, y], #[t, t']⟩, ty, p, af, none⟩ :: l) a o nx Q = wO ((opd a x).bind fun u => (opd a y).bind fun v => cm1 [u, v]) (kV E cr st ops l a d o nx Q) := by
 rw [F4]; unfold wO; simp only [j7, U6]
 cases opd a x with
 | none => rfl
 | some u =>
  simp only [Option.bind_some]
  cases opd a y with
  | none => rfl
  | some v => simp only [Option.bind_some]; cases cm1 [u, v] <;> rfl
@[go_sem] theorem de6 (d f xs ts) : WS E cr st ops (⟨d, .call ⟨.value f, xs, ts⟩, ty, p, af, none⟩ :: l) a o nx Q = wO ((U6 a xs.toList).bind fun vs => (opd a f).bind fun fv => al6 E (fun _ _ => none) cr fv vs ⟨o, nx⟩) (kH E cr st ops l a d Q) := by
 rw [F4]; unfold wO; simp only [j7]
 cases (U6 a xs.toList).bind fun args => (opd a f).bind fun fv => al6 E (fun _ _ => none) cr fv args ⟨o, nx⟩ <;> rfl
end
end
@[go_sem] theorem cs5 (args t) : v7 args t = (args[t]?).getD noV := rfl
@[go_sem] theorem cb1 (a t) : opd a (.tmp t) = some (a t) := rfl
@[go_sem] theorem cK3 (a f) : opd a (.func f) = some (.fn (.func f) [] []) := rfl
@[go_sem] theorem cT2 (a k n) : opd a (.const (.int k n)) = some (.int k n) := rfl
@[go_sem] theorem cK4 (a b) : opd a (.const (.bool b)) = some (.bool b) := rfl
@[go_sem] theorem cT3 (a) : opd a (.const (.slice none 0 0)) = some .nil := rfl
@[go_sem] theorem cT4 (a s) : opd a (.const (.string s)) = some (.str s.data.toList) := rfl
@[go_sem] theorem cK5 (a) : opd a (.const (.pointer none)) = some .nilp := rfl
@[go_sem] theorem cT5 (a) : opd a (.const (.map none)) = some .nilmp := rfl
@[go_sem] theorem cK6 (a) : U6 a [] = some [] := rfl
def bo1 (x : Option AV) (xs : Option (List AV)) : Option (List AV) := match x, xs with | some v, some vs => some (v :: vs) | _, _ => none
@[go_sem] theorem cn7 (v vs) : bo1 (some v) (some vs) = some (v :: vs) := rfl
@[go_sem] theorem cs6 (a x xs) : U6 a (x :: xs) = bo1 (opd a x) (U6 a xs) := rfl
@[go_sem] theorem aB6 (a t v u) : put a t v u = if u = t then v else a u := rfl
@[go_sem] theorem bo2 (a t v) : L6 a (some t) v = put a t v := rfl
@[go_sem] theorem cs7 (a v) : L6 a none v = a := rfl
@[go_sem] theorem d6 (o i j x k l) : upd o (i, j) x (k, l) = if l = j then (if k = i then some x else o (k, l)) else o (k, l) := by
 unfold upd
 by_cases h1 : l = j <;> by_cases h2 : k = i <;> simp [h1, h2]
@[go_sem] theorem cT6 (o nx t e s b cs) : (Z3 ⟨o, nx⟩ t e s b cs).o = upd o t (.row ⟨e, s, t, false, b, cs⟩) := rfl
@[go_sem] theorem cK7 (o nx t e s b cs) : (Z3 ⟨o, nx⟩ t e s b cs).nx = nx := rfl
@[go_sem] theorem cK8 (o nx t r) : (an5 ⟨o, nx⟩ t r).o = upd o t (.row r) := rfl
@[go_sem] theorem cs8 (o nx t r) : (an5 ⟨o, nx⟩ t r).nx = nx := rfl
def O8 (x : Option AObj) (g : Tag) : Option Row := match x with | some (.row r) => if r.gen = g then some r else none | _ => none
@[go_sem] theorem aa6 (o k g) : Z2 o k g = O8 (o k) g := rfl
@[go_sem] theorem ah1 (e s g ro pl cs) : O8 (some (.row ⟨e, s, g, ro, pl, cs⟩)) g = some ⟨e, s, g, ro, pl, cs⟩ := if_pos rfl
@[go_sem] theorem cs9 (P t k g off o nx) : P6 P t (.ptr k g off) ⟨o, nx⟩ = (Z2 o k g).bind fun r => Q7 P t (r.cs.drop off) := by
 unfold P6; dsimp only; cases Z2 o k g <;> rfl
@[go_sem] theorem cn8 (P t cs o nx) : P6 P t (.fptr cs) ⟨o, nx⟩ = Q7 P t cs := rfl
def bo3 (k : Tag) (off n : Nat) (cs : List AV) (o : Ob) (nx : Nat) (r : Row) : Option AH :=
 if cs.length = n ∧ cs.all p8 = true ∧ r.ro = false ∧ off + n ≤ r.cs.length then some ⟨upd o k (.row { r with cs := s6 r.cs off cs }), nx⟩ else none
@[go_sem] theorem cn9 (P t k g off x o nx) : I7 P t (.ptr k g off) x ⟨o, nx⟩ = (n6 P t).bind fun n => (Z2 o k g).bind (bo3 k off n x.cells o nx) := by
 unfold I7
 dsimp only
 cases n6 P t with
 | none => rfl
 | some n =>
  dsimp only [Option.bind_some]
  cases Z2 o k g <;> rfl
def ct0 (b : Option Bool) (n : Option Nat) (cs : List AV) : Option AV := match b, n with | some b, some n => L7 b n cs | _, _ => none
@[go_sem] theorem co0 (b n cs) : ct0 (some b) (some n) cs = L7 b n cs := rfl
@[go_sem] theorem cK9 (P t cs) : Q7 P t cs = ct0 (I4 P t) (n6 P t) cs := rfl
@[go_sem] theorem ct1 (n x cs) : L7 false n (x :: cs) = some x := rfl
@[go_sem] theorem ct2 (n cs) : L7 true n cs = if n ≤ cs.length then some (.agg (cs.take n)) else none := rfl
@[go_sem] theorem cT7 (n) : asI (.int .i64 n) = some n := rfl
@[go_sem] theorem cT8 (a x) : ab8 a x = (opd a x).bind asI := rfl
@[go_sem] theorem ct3 (a) : aF0 a none = some none := rfl
@[go_sem] theorem ct4 (a x) : aF0 a (some x) = (ab8 a x).map some := rfl
@[go_sem] theorem ct5 (cs) : AV.cells (.agg cs) = cs := rfl
@[go_sem] theorem ct6 (k n) : AV.cells (.int k n) = [.int k n] := rfl
@[go_sem] theorem co1 (b) : AV.cells (.bool b) = [.bool b] := rfl
@[go_sem] theorem ct7 (b) : AV.cells (.str b) = [.str b] := rfl
@[go_sem] theorem ct8 : AV.cells .nil = [.nil] := rfl
@[go_sem] theorem cL0 (n cs) : AV.cells (.sl n cs) = [.sl n cs] := rfl
@[go_sem] theorem ct9 (k g off n) : AV.cells (.ref k g off n) = [.ref k g off n] := rfl
@[go_sem] theorem cu0 (k g off) : AV.cells (.ptr k g off) = [.ptr k g off] := rfl
@[go_sem] theorem co2 (cs) : AV.cells (.fptr cs) = [.fptr cs] := rfl
@[go_sem] theorem cL1 (f x y) : AV.cells (.fn f x y) = [.fn f x y] := rfl
@[go_sem] theorem cL2 (k) : AV.cells (.mp k) = [.mp k] := rfl
@[go_sem] theorem co3 : AV.cells .nilp = [.nilp] := rfl
@[go_sem] theorem cb2 : AV.cells .nilmp = [.nilmp] := rfl
@[go_sem] theorem de7 (k n) : p8 (.int k n) = true := rfl
@[go_sem] theorem cT9 (b) : p8 (.bool b) = true := rfl
@[go_sem] theorem de8 (b) : p8 (.str b) = true := rfl
@[go_sem] theorem de9 : p8 .nil = true := rfl
@[go_sem] theorem ds3 (n cs) : p8 (.sl n cs) = true := rfl
@[go_sem] theorem df0 (k g off n) : p8 (.ref k g off n) = true := rfl
@[go_sem] theorem df1 (k g off) : p8 (.ptr k g off) = true := rfl
@[go_sem] theorem cU0 (cs) : p8 (.fptr cs) = true := rfl
@[go_sem] theorem ds4 (f x y) : p8 (.fn f x y) = true := rfl
@[go_sem] theorem ds5 (k) : p8 (.mp k) = true := rfl
@[go_sem] theorem cU1 : p8 .nilp = true := rfl
@[go_sem] theorem cL3 : p8 .nilmp = true := rfl
theorem F5 {o : Ob} {i i' j j' : Nat} {x : AObj} (h : i ≠ i') : upd o (i', j') x (i, j) = o (i, j) := B2 _ _ _ _ (fun e => h (by injection e))
attribute [go_sem] beq_self_eq_true Nat.sub_zero Option.bind_some Option.bind_none Option.map_some Option.map_none Option.getD_some Option.getD_none List.toList_toArray List.all_cons List.all_nil Bool.and_self Bool.and_true Bool.true_and List.length_cons List.length_nil List.drop_zero List.drop_succ_cons List.drop_nil List.cons_append List.nil_append List.append_nil reduceIte Nat.add_zero Nat.zero_add Nat.mul_one Nat.one_mul Nat.zero_mul Nat.mul_zero ne_eq not_true_eq_false not_false_eq_true or_self or_false false_or and_self and_true true_and and_false false_and List.take_succ_cons List.take_zero List.getElem?_cons_zero List.getElem?_cons_succ eq_self if_true if_false Bool.not_true Bool.not_false Bool.not_not Bool.false_and Bool.and_false Bool.or_true Bool.true_or Bool.or_false Bool.false_or Bool.true_eq_false Bool.false_eq_true
end Go.Proofs.YtpmjpogcaglphaaDoor.A
namespace Go.Proofs.YtpmjpogcaglphaaDoor.A
open Go
abbrev U3 : Int := 140737488355328
attribute [go_sem] U3 Nat.min_self true_or or_true List.length_replicate Nat.le_refl Int.le_refl
@[go_sem] theorem ds6 : ((0 : Nat) : Int) = 0 := rfl
section
variable {P : Program} {t e : TypeId} {s n b : Nat} {z : List AV}
theorem M9 (h : (G4 P t).bind (n6 P) = some s) (k g off n i) : j5 P t (.ref k g off n) i = if 0 ≤ i ∧ i < (n : Int) then some (.ptr k g (off + i.toNat * s)) else none := by
 unfold j5; simp only [h]
theorem V6 (h : (G4 P t).bind (n6 P) = some s) (n cs i) : j5 P t (.sl n cs) i = if 0 ≤ i ∧ i < (n : Int) then some (.fptr (cs.drop (i.toNat * s))) else none := by
 unfold j5; simp only [h]
theorem bG5 (h : aj3 P t = some (n, e)) (hs : n6 P e = some s) (cs i) : j5 P t (.fptr cs) i = if 0 ≤ i ∧ i < (n : Int) then some (.fptr (cs.drop (i.toNat * s))) else none := by
 unfold j5; simp only [h, hs]
theorem aP6 (h : aj3 P t = some (n, e)) (hs : n6 P e = some s) (k g off i) : j5 P t (.ptr k g off) i = if 0 ≤ i ∧ i < (n : Int) then some (.ptr k g (off + i.toNat * s)) else none := by
 unfold j5; simp only [h, hs]
theorem cb3 (h : aj3 P t = some (n, e)) (hs : n6 P e = some s) (cs i) : T5 P t (.agg cs) i = if 0 ≤ i ∧ i < (n : Int) then Q7 P e (cs.drop (i.toNat * s)) else none := by
 unfold T5; simp only [h, hs]
theorem cb4 (h : au8 (P.underlying t) = true) (x i) : T5 P t (.str x) i = if 0 ≤ i then (x[i.toNat]?).map fun b => .int .u8 b.toNat else none := by
 unfold T5; simp only [h, if_true]
theorem x8 {f o' ft : Nat} (h : G6 P t f = some (o', ft)) (hs : n6 P ft = some (s + 1)) (k g off) : d8 P t f (.ptr k g off) = some (.ptr k g (off + o')) := by
 unfold d8; simp [h, hs]
theorem Q2 {f o' ft : Nat} (h : G6 P t f = some (o', ft)) (hs : n6 P ft = some (s + 1)) (cs) : d8 P t f (.fptr cs) = some (.fptr (cs.drop o')) := by
 unfold d8; simp [h, hs]
theorem cu1 {f o' ft : Nat} (h : G6 P t f = some (o', ft)) (cs) : aI4 P t f (.agg cs) = Q7 P ft (cs.drop o') := by
 unfold aI4; simp [h]
theorem bo4 (h : (G4 P t).bind (n6 P) = some (s + 1)) (k g off n lo hi) : U5 P t (.ref k g off n) lo hi = if 0 ≤ lo.getD 0 ∧ lo.getD 0 ≤ hi.getD n ∧ hi.getD n ≤ n then some (.ref k g (off + (lo.getD 0).toNat * (s + 1)) ((hi.getD n).toNat - (lo.getD 0).toNat)) else none := by
 unfold U5; simp only [h, Nat.succ_pos, true_and]
theorem aI5 (h : P.underlying t = some (.slice e)) (o) : O6 P o t .nil = some (.int .i64 0) := by unfold O6; simp only [h]
theorem aB7 (h : P.underlying t = some (.slice e)) (o n cs) : O6 P o t (.sl n cs) = some (.int .i64 n) := by unfold O6; simp only [h]
theorem V7 (h : P.underlying t = some (.slice e)) (o k g off n) : O6 P o t (.ref k g off n) = some (.int .i64 n) := by unfold O6; simp only [h]
theorem cu2 (h : P.underlying t = some .string) (o x) : O6 P o t (.str x) = some (.int .i64 x.length) := by unfold O6; simp only [h]
theorem av4 (h : G4 P t = some e) (hs : n6 P e = some (s + 1)) (hb : aj2 P e = some b) (hz : G5 P e = some z) (hl : z.length = s + 1) (tg l c o nx) : r8 P tg t l c ⟨o, nx⟩ = if 0 ≤ l ∧ l ≤ c ∧ c * b ≤ U3 ∧ c ≤ U3 then some (.ref tg tg 0 l.toNat, ⟨upd o tg (.row ⟨e, s + 1, tg, false, true, rep z l.toNat⟩), nx⟩) else none := by
 unfold r8; simp only [h, hs, hb, hz, hl, Nat.succ_pos, and_true]; rfl
theorem ah2 (h : G4 P t = some e) (hs : n6 P e = some (s + 1)) (hz : G5 P e = some z) (hl : z.length = s + 1) (tg n ps o nx) : m8 P tg t n ps ⟨o, nx⟩ = if n * (s + 1) ≤ 16777216 then (y8 (fun i => some (i * (s + 1), s + 1)) (rep z n) ps).map (fun cs => (.ref tg tg 0 n, ⟨upd o tg (.row ⟨e, s + 1, tg, false, true, cs⟩), nx⟩)) else none := by
 unfold m8; simp only [h, hs, hz, hl, Nat.succ_pos, and_true]
 split
 ·cases y8 (fun i => some (i * (s + 1), s + 1)) (rep z n) ps <;> rfl
 ·rfl
def aI6 (tg : Tag) (e sz by_ : Nat) (x : AV) (m : Nat) (new : List AV) (o : Ob) (nx : Nat) : Option (AV × AH) :=
 if new.length = m * sz ∧ new.all p8 = true then
  match x with
  | .nil => if m = 0 then some (.nil, ⟨o, nx⟩) else if (m * by_ : Int) ≤ U3 then some (.ref tg tg 0 m, ⟨upd o tg (.row ⟨e, sz, tg, false, true, new⟩), nx⟩) else none
  | .ref k g 0 n => (O8 (o k) g).bind fun r => if r.elem = e ∧ r.sz = sz ∧ r.ro = false ∧ r.plain = true ∧ n * sz ≤ r.cs.length ∧ ((n + m) * by_ : Int) ≤ U3 then some (.ref k tg 0 (n + m), ⟨upd o k (.row { r with gen := tg, cs := r.cs.take (n * sz) ++ new }), nx⟩) else none
  | _ => none
 else none
theorem al7 {t' : TypeId} (h : G4 P t = some e) (hs : n6 P e = some (s + 1)) (hb : aj2 P e = some (b + 1)) (hz : G5 P e = some z) (hl : z.length = s + 1) (ht : (au8 (P.underlying t') || (G4 P t').isSome) = true) (tg x y o nx) : w6 P tg t t' x y ⟨o, nx⟩ = (E0 o y).bind fun q => aI6 tg e (s + 1) (b + 1) x q.1 q.2 o nx := by
 unfold w6
 simp only [h, hs, hb, hz]
 cases E0 o y with
 | none => rfl
 | some q =>
  obtain ⟨m, new⟩ := q
  have h1 : ¬ (au8 (P.underlying t') = false ∧ (G4 P t').isSome = false) := by
   rintro ⟨h1, h2⟩; rw [h1, h2] at ht; cases ht
  simp only [Option.bind_some, aI6, hl, ne_eq, not_true_eq_false, h1, false_or, Nat.succ_ne_zero]
  by_cases hc : new.length = m * (s + 1) ∧ new.all p8 = true
  ·have c3 : ¬ (¬ new.length = m * (s + 1) ∨ new.all p8 = false) := by
    rintro (h | h)
    ·exact h hc.1
    ·rw [hc.2] at h; cases h
   rw [if_neg c3, if_pos hc]
   cases x with
   | nil =>
    have : (m * (b + 1) ≤ 140737488355328) ↔ ((m : Int) * ((b + 1 : Nat) : Int) ≤ U3) := by unfold U3; rw [← Int.natCast_mul]; omega
    simp only [this]
    rfl
   | ref k g off n =>
    cases off with
    | zero =>
     have : ((n + m) * (b + 1) ≤ 140737488355328) ↔ (((n : Int) + (m : Int)) * ((b + 1 : Nat) : Int) ≤ U3) := by
      unfold U3
      rw [← Int.natCast_add, ← Int.natCast_mul]
      omega
     simp only [aa6, this]
     cases O8 (o k) g <;> rfl
    | succ off => rfl
   | _ => rfl
  ·have c3 : (¬ new.length = m * (s + 1) ∨ new.all p8 = false) := by
    by_cases c1 : new.length = m * (s + 1)
    ·exact .inr (by rw [← Bool.not_eq_true]; exact fun h => hc ⟨c1, h⟩)
    ·exact .inl c1
   rw [if_pos c3, if_neg hc]
@[go_sem] theorem bG6 (tg e sz by_ m new o nx) : aI6 tg e sz by_ .nil m new o nx = if new.length = m * sz ∧ new.all p8 = true then (if m = 0 then some (.nil, ⟨o, nx⟩) else if (m * by_ : Int) ≤ U3 then some (.ref tg tg 0 m, ⟨upd o tg (.row ⟨e, sz, tg, false, true, new⟩), nx⟩) else none) else none := rfl
def cU2 (tg : Tag) (e sz by_ : Nat) (k : Tag) (n m : Nat) (new : List AV) (o : Ob) (nx : Nat) (r : Row) : Option (AV × AH) :=
 if r.elem = e ∧ r.sz = sz ∧ r.ro = false ∧ r.plain = true ∧ n * sz ≤ r.cs.length ∧ ((n + m) * by_ : Int) ≤ U3 then some (.ref k tg 0 (n + m), ⟨upd o k (.row { r with gen := tg, cs := r.cs.take (n * sz) ++ new }), nx⟩) else none
@[go_sem] theorem bG7 (tg e sz by_ k n m new o nx g cs) : cU2 tg e sz by_ k n m new o nx ⟨e, sz, g, false, true, cs⟩ = if n * sz ≤ cs.length ∧ ((n + m) * by_ : Int) ≤ U3 then some (.ref k tg 0 (n + m), ⟨upd o k (.row ⟨e, sz, tg, false, true, cs.take (n * sz) ++ new⟩), nx⟩) else none := by
 unfold cU2; simp
@[go_sem] theorem bG8 (tg e sz by_ k g n m new o nx) : aI6 tg e sz by_ (.ref k g 0 n) m new o nx = if new.length = m * sz ∧ new.all p8 = true then (O8 (o k) g).bind (cU2 tg e sz by_ k n m new o nx) else none := rfl
def aI7 (k : Tag) (off n sz m : Nat) (new : List AV) (o : Ob) (nx : Nat) (r : Row) : Option (AV × AH) :=
 if (off = 0 ∨ 0 < n) ∧ r.sz = sz ∧ r.ro = false ∧ off + n * sz ≤ r.cs.length ∧ new.length = m * sz ∧ new.all p8 = true then some (.int .i64 (min m n : Nat), ⟨upd o k (.row { r with cs := s6 r.cs off (new.take (min m n * sz)) }), nx⟩) else none
@[go_sem] theorem cu3 (k off n sz m new o nx e g pl cs) : aI7 k off n sz m new o nx ⟨e, sz, g, false, pl, cs⟩ = if (off = 0 ∨ 0 < n) ∧ off + n * sz ≤ cs.length ∧ new.length = m * sz ∧ new.all p8 = true then some (.int .i64 (min m n : Nat), ⟨upd o k (.row ⟨e, sz, g, false, pl, s6 cs off (new.take (min m n * sz))⟩), nx⟩) else none := by
 unfold aI7; simp
theorem aI8 (h : (G4 P t).bind (n6 P) = some s) (k g off n x o nx) : R8 P t (.ref k g off n) x ⟨o, nx⟩ = (E0 o x).bind fun q => (O8 (o k) g).bind (aI7 k off n s q.1 q.2 o nx) := by
 unfold R8
 simp only [h]
 cases E0 o x with
 | none => rfl
 | some q =>
  simp only [Option.bind_some, aa6]
  cases O8 (o k) g <;> rfl
theorem aW5 (hz : G5 P t = some z) (hu : P.underlying t = some (.array n e)) (hs : n6 P e = some s) (xs) : E5 P t xs = (y8 (fun i => some (i * s, s)) z xs).map .agg := by
 unfold E5; simp only [hz, hu, hs]
end
@[go_sem] theorem cb5 (a) : B8 a [] = some [] := rfl
def cu4 (i : Nat) (x : Option AV) (xs : Option (List (Nat × AV))) : Option (List (Nat × AV)) := match x, xs with | some v, some vs => some ((i, v) :: vs) | _, _ => none
@[go_sem] theorem co4 (i v vs) : cu4 i (some v) (some vs) = some ((i, v) :: vs) := rfl
@[go_sem] theorem bV7 (a i x ps) : B8 a ((i, x) :: ps) = cu4 i (opd a x) (B8 a ps) := rfl
@[go_sem] theorem cu5 (place cells) : y8 place cells [] = some cells := rfl
def cb6 (p : Option (Nat × Nat)) (cells vs : List AV) : Option (List AV) := match p with
 | none => none
 | some (off, size) => if vs.length = size ∧ off + size ≤ cells.length ∧ vs.all p8 = true then some (s6 cells off vs) else none
@[go_sem] theorem co5 (place cells i v rest) : y8 place cells ((i, v) :: rest) = (cb6 (place i) cells v.cells).bind fun cs => y8 place cs rest := by
 simp only [y8, cb6]
 cases place i with
 | none => rfl
 | some q => obtain ⟨off, size⟩ := q; dsimp only; split <;> rfl
@[go_sem] theorem co6 (off size cells vs) : cb6 (some (off, size)) cells vs = if vs.length = size ∧ off + size ≤ cells.length ∧ vs.all p8 = true then some (s6 cells off vs) else none := rfl
@[go_sem] theorem co7 (k off n cs o nx e s g pl rs) : bo3 k off n cs o nx ⟨e, s, g, false, pl, rs⟩ = if cs.length = n ∧ cs.all p8 = true ∧ off + n ≤ rs.length then some ⟨upd o k (.row ⟨e, s, g, false, pl, s6 rs off cs⟩), nx⟩ else none := by
 unfold bo3; simp
@[go_sem] theorem aP7 (rs cs) : s6 rs 0 cs = cs ++ rs.drop cs.length := by simp [s6]
@[go_sem] theorem cb7 (x rs off cs) : s6 (x :: rs) (off + 1) cs = x :: s6 rs off cs := by
 unfold s6
 rw [show off + 1 + cs.length = (off + cs.length) + 1 by omega]
 rfl
@[go_sem] theorem cL4 (z) : rep z 0 = [] := rfl
@[go_sem] theorem cL5 (z n) : rep z (n + 1) = z ++ rep z n := rfl
theorem aq7 (x n) : rep [x] n = List.replicate n x := by
 induction n with
 | zero => rfl
 | succ n ih => simp [rep, ih, List.replicate_succ]
theorem bG9 (z n) : rep z n = (List.replicate n z).flatten := by
 induction n with
 | zero => rfl
 | succ n ih => simp [rep, ih, List.replicate_succ]
@[go_sem] theorem cu6 (o) : E0 o .nil = some (0, []) := rfl
@[go_sem] theorem cL6 (o n cs) : E0 o (.sl n cs) = some (n, cs) := rfl
@[go_sem] theorem cu7 (o x) : E0 o (.str x) = some (x.length, x.map fun b => .int .u8 b.toNat) := rfl
@[go_sem] theorem cu8 (o k g off n) : E0 o (.ref k g off n) = (O8 (o k) g).map fun r => (n, (r.cs.drop off).take (n * r.sz)) := by
 simp only [E0, A8, aa6]; cases O8 (o k) g <;> rfl
@[go_sem] theorem cL7 (P t k x y) : J8 P .add t (.int k x) (.int k y) = some (.int k (k.wrap (x + y))) := by simp [J8, aN3]
@[go_sem] theorem cL8 (P t k x y) : J8 P .sub t (.int k x) (.int k y) = some (.int k (k.wrap (x - y))) := by simp [J8, aN3]
@[go_sem] theorem cL9 (P t k x y) : J8 P .mul t (.int k x) (.int k y) = some (.int k (k.wrap (x * y))) := by simp [J8, aN3]
@[go_sem] theorem cM0 (P t k x y) : J8 P .quo t (.int k x) (.int k y) = if y = 0 then none else some (.int k (k.wrap (x.tdiv y))) := by simp [J8, aN3]
@[go_sem] theorem cM1 (P t k x y) : J8 P .rem t (.int k x) (.int k y) = if y = 0 then none else some (.int k (x.tmod y)) := by simp [J8, aN3]
@[go_sem] theorem cM2 (P t k x y) : J8 P .eql t (.int k x) (.int k y) = some (.bool (decide (x = y))) := by simp [J8, aN3]; rfl
@[go_sem] theorem cM3 (P t k x y) : J8 P .neq t (.int k x) (.int k y) = some (.bool (decide (¬ x = y))) := by simp [J8, aN3, bne]; rfl
@[go_sem] theorem cM4 (P t k x y) : J8 P .lss t (.int k x) (.int k y) = some (.bool (decide (x < y))) := by simp [J8, aN3]
@[go_sem] theorem cM5 (P t k x y) : J8 P .leq t (.int k x) (.int k y) = some (.bool (decide (x ≤ y))) := by simp [J8, aN3]
@[go_sem] theorem cM6 (P t k x y) : J8 P .gtr t (.int k x) (.int k y) = some (.bool (decide (y < x))) := by simp [J8, aN3]
@[go_sem] theorem cM7 (P t k x y) : J8 P .geq t (.int k x) (.int k y) = some (.bool (decide (y ≤ x))) := by simp [J8, aN3]
@[go_sem] theorem cM8 (P t k k' x y) : J8 P .shl t (.int k x) (.int k' y) = aj4 .shl k x y := by simp [J8]
@[go_sem] theorem cM9 (P t k k' x y) : J8 P .shr t (.int k x) (.int k' y) = aj4 .shr k x y := by simp [J8]
@[go_sem] theorem cN0 (P t k x y) : J8 P .and t (.int k x) (.int k y) = an4 .and k x y := by simp [J8, aN3]
@[go_sem] theorem cU3 (P t k x y) : J8 P .or t (.int k x) (.int k y) = an4 .or k x y := by simp [J8, aN3]
theorem bH0 {P : Program} {t : TypeId} (h : an3 (P.underlying t) = true) (x y) : J8 P .neq t (.bool x) (.bool y) = some (.bool (!(x == y))) := by simp [J8, h]
@[go_sem] theorem cu9 (P t x y) : J8 P .add t (.str x) (.str y) = if x.length + y.length ≤ 9223372036854775807 then some (.str (x ++ y)) else none := by simp [J8, cm0]
@[go_sem] theorem cv0 (P t x y) : J8 P .eql t (.str x) (.str y) = some (.bool (x == y)) := by simp [J8, cm0]
@[go_sem] theorem cv1 (P t x y) : J8 P .neq t (.str x) (.str y) = some (.bool (!(x == y))) := by simp [J8, cm0]
@[go_sem] theorem cU4 (x) : aUn .not (.bool x) = some (.bool (!x)) := rfl
@[go_sem] theorem cU5 (k n) : aUn .neg (.int k n) = some (.int k (k.wrap (0 - n))) := rfl
def cvI (s d : Option TypeDesc) (n : Int) (o : Ob) (nx : Nat) : Option (AV × AH) := match s, d with | some _, some (.int k) => some (.int k (k.wrap n), ⟨o, nx⟩) | _, _ => none
@[go_sem] theorem cN1 (s k n o nx) : cvI (some s) (some (.int k)) n o nx = some (.int k (k.wrap n), ⟨o, nx⟩) := rfl
theorem u5 {P : Program} {s d : TypeId} {k : IntKind} {td : TypeDesc} (hs : P.underlying s = some td) (hd : P.underlying d = some (.int k)) (tg k' n o nx) : f8 P tg s d (.int k' n) ⟨o, nx⟩ = some (.int k (k.wrap n), ⟨o, nx⟩) := by
 unfold f8; simp only [hs, hd]
@[go_sem] theorem co8 (k x y) : aj4 .shr k x y = if y < 0 then none else some (.int k (x.fdiv (2 ^ (min y.toNat k.bits)))) := rfl
@[go_sem] theorem co9 (k x y) : aj4 .shl k x y = if y < 0 then none else some (.int k (k.wrap (x * 2 ^ (min y.toNat k.bits)))) := rfl
def cU6 (k : IntKind) (x y : Int) : Int := k.wrap (BitVec.ofInt k.bits x &&& BitVec.ofInt k.bits y).toNat
def orI (k : IntKind) (x y : Int) : Int := k.wrap (BitVec.ofInt k.bits x ||| BitVec.ofInt k.bits y).toNat
@[go_sem] theorem cv3 (k x y) : an4 .and k x y = some (.int k (cU6 k x y)) := rfl
@[go_sem] theorem cN2 (k x y) : an4 .or k x y = some (.int k (orI k x y)) := rfl
@[go_sem] theorem cN3 : IntKind.i64.bits = 64 := rfl
@[go_sem] theorem cN4 : IntKind.u64.bits = 64 := rfl
@[go_sem] theorem cU7 : IntKind.u8.bits = 8 := rfl
def cI (l : List Int) : List AV := l.map (AV.int .i64)
def cB (l : List Bool) : List AV := l.map AV.bool
abbrev slI (l : List Int) : AV := .sl l.length (cI l)
abbrev slB (l : List Bool) : AV := .sl l.length (cB l)
@[go_sem] theorem df2 : cI [] = [] := rfl
@[go_sem] theorem df3 : cB [] = [] := rfl
@[go_sem] theorem m4 (l) : (cI l).length = l.length := by simp [cI]
@[go_sem] theorem z8 (l) : (cB l).length = l.length := by simp [cB]
@[go_sem] theorem av5 (l) : (cI l).all p8 = true := by simp [cI, List.all_eq_true, p8]
@[go_sem] theorem ds7 (l) : (cB l).all p8 = true := by simp [cB, List.all_eq_true, p8]
theorem ak5 (x y) : cI (x ++ y) = cI x ++ cI y := by simp [cI]
theorem aI9 (x y) : cB (x ++ y) = cB x ++ cB y := by simp [cB]
theorem aP8 (l n) : (cI l).take n = cI (l.take n) := by simp [cI, List.map_take]
theorem bo5 (l n) : (cI l).drop n = cI (l.drop n) := by simp [cI, List.map_drop]
theorem Y3 {cs : List AV} {i s : Nat} (h : i < cs.length) : L7 false s (cs.drop i) = some (cs[i]'h) := by
 rw [List.drop_eq_getElem_cons h]; rfl
theorem Z8 {l : List Int} {i s : Nat} (h : i < l.length) : L7 false s ((cI l).drop i) = some (.int .i64 (l.getD i 0)) := by
 rw [Y3 (by simpa [cI] using h)]; simp [cI, List.getD, h]
theorem R3 {l : List Bool} {i s : Nat} (h : i < l.length) : L7 false s ((cB l).drop i) = some (.bool (l.getD i false)) := by
 rw [Y3 (by simpa [cB] using h)]; simp [cB, List.getD, h]
theorem V8 (cs : List AV) (off : Nat) (x : AV) (h : off < cs.length) : s6 cs off [x] = cs.set off x := by
 unfold s6
 rw [List.set_eq_take_append_cons_drop, if_pos h]; simp
theorem aW6 (l : List Int) (i x) (h : i < l.length) : s6 (cI l) i [.int .i64 x] = cI (l.set i x) := by
 rw [V8 _ _ _ (by simpa [cI] using h)]; simp [cI, List.map_set]
theorem aJ0 (l : List Bool) (i x) (h : i < l.length) : s6 (cB l) i [.bool x] = cB (l.set i x) := by
 rw [V8 _ _ _ (by simpa [cB] using h)]; simp [cB, List.map_set]
theorem aq8 (n) : rep [AV.int .i64 0] n = cI (List.replicate n 0) := by rw [aq7]; simp [cI]
theorem G8 (n) : rep [AV.bool false] n = cB (List.replicate n false) := by rw [aq7]; simp [cB]
@[go_sem] theorem Y4 (o d k n) : view o d (.int k n) = .int k n := by cases d <;> rfl
@[go_sem] theorem bo6 (o d b) : view o d (.bool b) = .bool b := by cases d <;> rfl
@[go_sem] theorem cN5 (o d b) : view o d (.str b) = .str b := by cases d <;> rfl
@[go_sem] theorem cN6 (o d) : view o d .nil = .sl 0 [] := by cases d <;> rfl
@[go_sem] theorem bo7 (o d n cs) : view o d (.sl n cs) = .sl n cs := by cases d <;> rfl
@[go_sem] theorem cv4 (o d cs) : view o d (.fptr cs) = .fptr cs := by cases d <;> rfl
@[go_sem] theorem cU8 (o d k) : view o d (.mp k) = .und := by cases d <;> rfl
@[go_sem] theorem cN7 (o d cs) : view o (d + 1) (.agg cs) = .agg (cs.map (view o d)) := rfl
@[go_sem] theorem cN8 (o d cs) : view o (d + 1) (.tup cs) = .tup (cs.map (view o d)) := rfl
def cb8 (o : Ob) (d off n : Nat) (r : Option Row) : AV := match r with
 | some r => if off + n * r.sz ≤ r.cs.length then .sl n (((r.cs.drop off).take (n * r.sz)).map (view o d)) else .und
 | none => .und
@[go_sem] theorem be8 (o d off n r) : cb8 o d off n (some r) = if off + n * r.sz ≤ r.cs.length then .sl n (((r.cs.drop off).take (n * r.sz)).map (view o d)) else .und := rfl
@[go_sem] theorem bH1 (o d k g off n) : view o (d + 1) (.ref k g off n) = cb8 o d off n (O8 (o k) g) := by
 unfold cb8; simp only [view]; rw [aa6]; cases O8 (o k) g <;> rfl
def cb9 (o : Ob) (d off : Nat) (r : Option Row) : AV := match r with
 | some r => .fptr ((r.cs.drop off).map (view o d))
 | none => .und
@[go_sem] theorem cp0 (o d off r) : cb9 o d off (some r) = .fptr ((r.cs.drop off).map (view o d)) := rfl
@[go_sem] theorem cN9 (o d k g off) : view o (d + 1) (.ptr k g off) = cb9 o d off (O8 (o k) g) := by
 unfold cb9; simp only [view]; rw [aa6]; cases O8 (o k) g <;> rfl
@[go_sem] theorem cv5 : p6 = 1012 := rfl
@[go_sem] theorem N0 (o d l) : (cI l).map (view o d) = cI l := by simp [cI, Function.comp_def, Y4]
@[go_sem] theorem cc0 (o d l) : (cB l).map (view o d) = cB l := by simp [cB, Function.comp_def, bo6]
attribute [go_sem] List.map_cons List.map_nil List.map_append List.length_append List.all_append List.flatMap_append flat flat.flats
def bH2 (m : Mode) (E : Env) (cp : H6) (cr : t8) (g : FuncId) (as_ : List AV) (o : Ob) (nx : Nat) : Option (AV × AH) := match m with
 | .pure sc => (cp g (as_.map (view o p6))).bind fun r => C4 sc as_ r ⟨o, nx⟩
 | .ext sc => (E.ext g (as_.map (view o p6))).bind fun r => C4 sc as_ r ⟨o, nx⟩
 | .raw fz => (cr g as_ ⟨o, nx⟩).map fun p => t6 fz p.1 p.2
@[go_sem] theorem cO0 (E cp cr g fs cs as_ o nx) : al6 E cp cr (.fn (.func g) fs cs) as_ ⟨o, nx⟩ = bH2 (E.mode g) E cp cr g (fs ++ as_ ++ cs) o nx := by
 unfold al6 bH2; rfl
@[go_sem] theorem cv6 (E cp cr g sc as_ o nx) : bH2 (.ext sc) E cp cr g as_ o nx = (E.ext g (as_.map (view o p6))).bind fun r => C4 sc as_ r ⟨o, nx⟩ := rfl
@[go_sem] theorem cv7 (E cp cr g fz as_ o nx) : bH2 (.raw fz) E cp cr g as_ o nx = (cr g as_ ⟨o, nx⟩).map fun p => t6 fz p.1 p.2 := rfl
@[go_sem] theorem bV8 (as_ r H) : C4 true as_ r H = if flat r then some (r, H) else none := rfl
@[go_sem] theorem bH3 (as_ r o nx) : C4 false as_ r ⟨o, nx⟩ = some (r, ⟨E3 (as_.flatMap (b9 o p6)) o, nx⟩) := rfl
theorem R4 {ts : List Tag} {o : Ob} {t : Tag} (h : t ∉ ts) : E3 ts o t = o t := by
 unfold E3
 cases o t with
 | none => rfl
 | some x =>
  cases x with
  | row r => simp [h]
  | map es => rfl
@[go_sem] theorem cp1 (o) : E3 [] o = o := by funext t; exact R4 (by simp)
@[go_sem] theorem Y5 (o d k n) : b9 o d (.int k n) = [] := by cases d <;> rfl
@[go_sem] theorem bo8 (o d b) : b9 o d (.bool b) = [] := by cases d <;> rfl
@[go_sem] theorem cO1 (o d b) : b9 o d (.str b) = [] := by cases d <;> rfl
@[go_sem] theorem cO2 (o d) : b9 o d .nil = [] := by cases d <;> rfl
@[go_sem] theorem bo9 (o d n cs) : b9 o d (.sl n cs) = [] := by cases d <;> rfl
@[go_sem] theorem cv8 (o d cs) : b9 o d (.fptr cs) = [] := by cases d <;> rfl
@[go_sem] theorem cU9 (o d k) : b9 o d (.mp k) = [] := by cases d <;> rfl
@[go_sem] theorem cO3 (o d cs) : b9 o (d + 1) (.agg cs) = cs.flatMap (b9 o d) := rfl
@[go_sem] theorem aP9 (o d l) : (cI l).flatMap (b9 o d) = [] := by simp [cI, List.flatMap_eq_nil_iff, Y5]
@[go_sem] theorem cc1 (o d l) : (cB l).flatMap (b9 o d) = [] := by
 induction l with
 | nil => rfl
 | cons b l ih => simpa [cB, bo8] using ih
def cc2 (o : Ob) (d : Nat) (k : Tag) (off n : Nat) (r : Option Row) : List Tag := match r with
 | some r => k :: (((r.cs.drop off).take (n * r.sz)).flatMap (b9 o d))
 | none => [k]
@[go_sem] theorem be9 (o d k off n r) : cc2 o d k off n (some r) = k :: (((r.cs.drop off).take (n * r.sz)).flatMap (b9 o d)) := rfl
@[go_sem] theorem bH4 (o d k g off n) : b9 o (d + 1) (.ref k g off n) = cc2 o d k off n (O8 (o k) g) := by
 unfold cc2; simp only [b9]; rw [aa6]; cases O8 (o k) g <;> rfl
def cc3 (o : Ob) (d : Nat) (k : Tag) (off : Nat) (r : Option Row) : List Tag := match r with
 | some r => k :: ((r.cs.drop off).flatMap (b9 o d))
 | none => [k]
@[go_sem] theorem cp2 (o d k off r) : cc3 o d k off (some r) = k :: ((r.cs.drop off).flatMap (b9 o d)) := rfl
@[go_sem] theorem cO4 (o d k g off) : b9 o (d + 1) (.ptr k g off) = cc3 o d k off (O8 (o k) g) := by
 unfold cc3; simp only [b9]; rw [aa6]; cases O8 (o k) g <;> rfl
attribute [go_sem] List.flatMap_cons List.flatMap_nil
def aJ1 (b : Bool) (x : Option AObj) : Option AObj := match b with | true => x | false => match x with | some (.row r) => some (.row { r with ro := true }) | x => x
@[go_sem] theorem cc4 (x) : aJ1 true x = x := rfl
@[go_sem] theorem cp3 (e s g ro pl cs) : aJ1 false (some (.row ⟨e, s, g, ro, pl, cs⟩)) = some (.row ⟨e, s, g, true, pl, cs⟩) := rfl
def nin (t : Tag) (l : List Tag) : Bool := !l.contains t
@[go_sem] theorem cp4 (ts o i j) : E3 ts o (i, j) = aJ1 (nin (i, j) ts) (o (i, j)) := by
 unfold E3 aJ1 nin
 cases o (i, j) with
 | none => cases ts.contains (i, j) <;> rfl
 | some x =>
  cases x with
  | row r => cases h : ts.contains (i, j) <;> simp [h]
  | map es => cases ts.contains (i, j) <;> rfl
@[go_sem] theorem cp5 (i) : H7 [] i = false := rfl
@[go_sem] theorem cc5 (a b l i) : H7 ((a, b) :: l) i = (decide (a = i) || decide (b = i) || H7 l i) := by
 have h : ∀ x y, Nat.beq x y = decide (x = y) := fun x y => by rw [Bool.eq_iff_iff]; simp [Nat.beq_eq_true_eq]
 simp only [H7, h]
@[go_sem] theorem cp6 {α : Type} (x y : α) : (bif true then x else y) = x := rfl
@[go_sem] theorem cc6 {α : Type} (x y : α) : (bif false then x else y) = y := rfl
section
variable (E : Env) (st : Nat) (ops : Array Oper) (d : Option Tmp) (ty : TypeId) (p : String) (af : Array Edge) (a : q8) (H : AH)
def bH5 (st : Nat) (d : Option Tmp) : List Tag := match d with | some d => [(st, d)] | none => []
@[go_sem] theorem cv9 (st d) : bH5 st (some d) = [(st, d)] := rfl
@[go_sem] theorem cw0 (st) : bH5 st none = [] := rfl
@[go_sem] theorem cV0 (t x) : A9 E st ops ⟨d, .load t x, ty, p, af, none⟩ a H = ⟨Q6 (opd a x), [], false⟩ := rfl
@[go_sem] theorem cO5 (t x y) : A9 E st ops ⟨d, .store t x y, ty, p, af, none⟩ a H = ⟨[], Q6 (opd a x), false⟩ := rfl
@[go_sem] theorem cO6 (t) : A9 E st ops ⟨d, .alloc t, ty, p, af, none⟩ a H = ⟨[], bH5 st d, false⟩ := rfl
@[go_sem] theorem df4 (t x) : A9 E st ops ⟨d, .box t x, ty, p, af, none⟩ a H = ⟨[], bH5 st d, false⟩ := rfl
@[go_sem] theorem bH6 (t n ps) : A9 E st ops ⟨d, .buildSlice t n ps, ty, p, af, none⟩ a H = ⟨[], bH5 st d, false⟩ := rfl
@[go_sem] theorem bV9 (t x y) : A9 E st ops ⟨d, .makeSlice t x y, ty, p, af, none⟩ a H = ⟨[], bH5 st d, false⟩ := rfl
@[go_sem] theorem cp7 (s t x) : A9 E st ops ⟨d, .convert s t x, ty, p, af, none⟩ a H = ⟨Q6 (opd a x), bH5 st d, false⟩ := rfl
@[go_sem] theorem cw1 (x y ts) : A9 E st ops ⟨d, .call ⟨.builtin .append, #[x, y], ts⟩, ty, p, af, none⟩ a H = ⟨Q6 (opd a y), bH5 st d ++ Q6 (opd a x), false⟩ := rfl
@[go_sem] theorem cV1 (x y ts) : A9 E st ops ⟨d, .call ⟨.builtin .copy, #[x, y], ts⟩, ty, p, af, none⟩ a H = ⟨Q6 (opd a y), Q6 (opd a x), false⟩ := rfl
@[go_sem] theorem df5 (x ts) : A9 E st ops ⟨d, .call ⟨.builtin .len, #[x], ts⟩, ty, p, af, none⟩ a H = ⟨Q6 (opd a x) ++ [], [], false⟩ := rfl
def ftF (E : Env) (fv : Option AV) (vs : List AV) (o : Ob) (nx : Nat) : FP := match fv with
 | some (.fn (.func g) first captured) =>
  let ts := (first ++ vs ++ captured).flatMap (b9 o p6)
  match E.mode g with
  | .pure true => ⟨ts, [], false⟩
  | .ext true => ⟨ts, [], false⟩
  | .pure false => ⟨ts, ts, false⟩
  | .ext false => ⟨ts, ts, false⟩
  | .raw z => ⟨[], bE4 z g nx, true⟩
 | _ => ⟨[], [], true⟩
@[go_sem] theorem cV2 (f xs ts) : A9 E st ops ⟨d, .call ⟨.value f, xs, ts⟩, ty, p, af, none⟩ a H = ftF E (opd a f) (xs.toList.filterMap (opd a)) H.o H.nx := rfl
def ftM (m : Mode) (ts : List Tag) (g : FuncId) (nx : Nat) : FP := match m with
 | .pure true => ⟨ts, [], false⟩
 | .ext true => ⟨ts, [], false⟩
 | .pure false => ⟨ts, ts, false⟩
 | .ext false => ⟨ts, ts, false⟩
 | .raw z => ⟨[], bE4 z g nx, true⟩
@[go_sem] theorem df6 (E : Env) (g f c vs o nx) : ftF E (some (.fn (.func g) f c)) vs o nx = ftM (E.mode g) ((f ++ vs ++ c).flatMap (b9 o p6)) g nx := rfl
@[go_sem] theorem cO7 (ts g nx) : ftM (.ext true) ts g nx = ⟨ts, [], false⟩ := rfl
@[go_sem] theorem cw2 (ts g nx) : ftM (.ext false) ts g nx = ⟨ts, ts, false⟩ := rfl
@[go_sem] theorem cV3 (z ts g nx) : ftM (.raw z) ts g nx = ⟨[], bE4 z g nx, true⟩ := rfl
@[go_sem] theorem cp8 (g n) : bE4 false g n = if aF6 g = true then [(n, 0)] else [] := by
 unfold bE4; simp
attribute [go_sem] aF6
@[go_sem] theorem cw3 (g n) : bE4 true g n = [] := rfl
@[go_sem] theorem cO8 {i n : Nat} (j m) (h : i < n) : below (i, j) (n, m) = true := by unfold below; exact decide_eq_true h
end
@[go_sem] theorem cw4 (v) : Q6 (some v) = A2 v := rfl
attribute [go_sem] A2 FP.none_ List.filterMap_cons List.filterMap_nil
@[go_sem] theorem cV4 (t) : nin t [] = true := rfl
@[go_sem] theorem cO9 (i j k m l) : nin (i, j) ((k, m) :: l) = if j = m then (if i = k then false else nin (i, j) l) else nin (i, j) l := by
 unfold nin
 by_cases h1 : j = m <;> by_cases h2 : i = k <;> simp [h1, h2]
@[go_sem] theorem cV5 (r w r' w') : aF1 ⟨r, w, false⟩ ⟨r', w', false⟩ = (w.all (fun t => nin t r' && nin t w') && w'.all (fun t => nin t r)) := rfl
@[go_sem] theorem cw5 (r w r' w') : aF1 ⟨r, w, true⟩ ⟨r', w', false⟩ = (w'.isEmpty && r'.all fun t => w.any (below t)) := rfl
@[go_sem] theorem cw6 (r w r' w') : aF1 ⟨r, w, false⟩ ⟨r', w', true⟩ = (w.isEmpty && r.all fun t => w'.any (below t)) := rfl
def cw7 (x y : Option FP) : Bool := match x, y with | some x, some y => aF1 x y | _, _ => false
@[go_sem] theorem cp9 (x y) : cw7 (some x) (some y) = aF1 x y := rfl
@[go_sem] theorem cw8 (fs) : J5 fs [] = true := rfl
@[go_sem] theorem cq0 (fs i j l) : J5 fs ((i, j) :: l) = (cw7 fs[i]? fs[j]? && J5 fs l) := rfl
attribute [go_sem] List.isEmpty_nil List.isEmpty_cons List.any_cons List.any_nil List.all_cons List.all_nil Bool.or_true Bool.or_false Bool.true_or Bool.and_true Bool.true_and
def aB8 (x : Option AObj) : Option (List (AV × AV)) := match x with | some (.map es) => some es | _ => none
@[go_sem] theorem cq1 (es) : aB8 (some (.map es)) = some es := rfl
def lkV (ok : Bool) (z : AV) (r : Option AV) : AV := match ok, r with
 | true, some v => .tup [v, .bool true]
 | true, none => .tup [z, .bool false]
 | false, some v => v
 | false, none => z
@[go_sem] theorem df7 (z v) : lkV true z (some v) = .tup [v, .bool true] := rfl
@[go_sem] theorem df8 (z) : lkV true z none = .tup [z, .bool false] := rfl
@[go_sem] theorem df9 (z v) : lkV false z (some v) = v := rfl
@[go_sem] theorem dg0 (z) : lkV false z none = z := rfl
theorem cw9 {P : Program} {t kt et : TypeId} {z k : AV} (h : P.underlying t = some (.map kt et)) (hz : aN6 P et = some z) (hk : aN5 P kt k = true) (m ok o nx) : J4 P t (.mp m) k ok ⟨o, nx⟩ = (aB8 (o m)).bind fun es => (L9 k es).map (lkV ok z) := by
 unfold J4 aB8
 simp only [h, hz, hk, if_true, aA4]
 cases o m with
 | none => rfl
 | some x =>
  cases x with
  | row r => rfl
  | map es =>
   dsimp only [Option.bind_some]
   cases L9 k es with
   | none => rfl
   | some r => cases r <;> cases ok <;> rfl
def bH7 (tg : Tag) (k v : AV) (o : Ob) (nx : Nat) (es : List (AV × AV)) : Option AH := (L9 k es).map fun _ => ⟨upd o tg (.map (aF5 k v es)), nx⟩
theorem cx0 {P : Program} {t kt et : TypeId} {k : AV} (h : P.underlying t = some (.map kt et)) (hk : aN5 P kt k = true) (m v o nx) : n9 P t (.mp m) k v ⟨o, nx⟩ = (aB8 (o m)).bind (bH7 m k v o nx) := by
 unfold n9 aB8 bH7
 simp only [h, hk, if_true]
 cases o m with
 | none => rfl
 | some x =>
  cases x with
  | row r => rfl
  | map es =>
   dsimp only [Option.bind_some]
   cases L9 k es <;> rfl
theorem aQ0 {k : AV} {es : List (AV × AV)} {r : Option AV} (h : L9 k es = some r) (tg v o nx) : bH7 tg k v o nx es = some ⟨upd o tg (.map (aF5 k v es)), nx⟩ := by unfold bH7; rw [h]; rfl
@[go_sem] theorem cq2 (b es) : aJ1 b (some (.map es)) = some (.map es) := by cases b <;> rfl
section
variable {E : Env} {cr : t8} (st : Nat) (ops : Array Oper) (ty : TypeId) (p : String) (af : Array Edge) (l : List Oper) (a : q8) (o : Ob) (nx : Nat) (Q : n8) (H : AH)
@[go_sem] theorem cx1 (d t) : WS E cr st ops (⟨some d, .makeMap t none, ty, p, af, none⟩ :: l) a o nx Q = WS E cr st ops l (put a d (.mp (st, d))) (upd o (st, d) (.map [])) nx Q := by
 rw [F4]; rfl
@[go_sem] theorem cP0 (d t m k ok) : WS E cr st ops (⟨some d, .lookup t m k ok, ty, p, af, none⟩ :: l) a o nx Q = wO ((opd a m).bind fun mv => (opd a k).bind fun kv => J4 E.P t mv kv ok ⟨o, nx⟩) (kV E cr st ops l a d o nx Q) := by
 rw [F4]; unfold wO; simp only [j7]
 cases opd a m with
 | none => rfl
 | some v =>
  simp only [Option.bind_some]
  cases opd a k with
  | none => rfl
  | some u => simp only [Option.bind_some]; cases J4 E.P t v u ok ⟨o, nx⟩ <;> rfl
@[go_sem] theorem cc7 (t m k x) : WS E cr st ops (⟨none, .mapUpdate t m k x, ty, p, af, none⟩ :: l) a o nx Q = wO ((opd a m).bind fun mv => (opd a k).bind fun kv => (opd a x).bind fun vv => n9 E.P t mv kv vv ⟨o, nx⟩) (kS E cr st ops l a Q) := by
 rw [F4]; unfold wO; simp only [j7]
 cases opd a m with
 | none => rfl
 | some v =>
  simp only [Option.bind_some]
  cases opd a k with
  | none => rfl
  | some u =>
   simp only [Option.bind_some]
   cases opd a x with
   | none => rfl
   | some y => simp only [Option.bind_some]; cases n9 E.P t v u y ⟨o, nx⟩ <;> rfl
@[go_sem] theorem cq3 (d t) : A9 E st ops ⟨d, .makeMap t none, ty, p, af, none⟩ a H = ⟨[], bH5 st d, false⟩ := rfl
@[go_sem] theorem cx2 (d t m k ok) : A9 E st ops ⟨d, .lookup t m k ok, ty, p, af, none⟩ a H = ⟨Q6 (opd a m), [], false⟩ := rfl
@[go_sem] theorem bW0 (d t m k x) : A9 E st ops ⟨d, .mapUpdate t m k x, ty, p, af, none⟩ a H = ⟨[], Q6 (opd a m), false⟩ := rfl
end
end Go.Proofs.YtpmjpogcaglphaaDoor.A
