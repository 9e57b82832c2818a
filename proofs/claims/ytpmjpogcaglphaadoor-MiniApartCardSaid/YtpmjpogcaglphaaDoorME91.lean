/- A, part 1: abstract values, the abstract heap, and what each operation does to them. No theorem about the machine stands here. -/
import Derived.Calls
import Derived.Orders
import Derived.Laws.Sem
import Derived.Scope
import Derived.Below
import Derived.Lib.LaidTab
import Derived.Lib.ItoaNum
import Derived.Laws.AppendOwn
import Derived.Laws.Cells
import Derived.Laws.Entries
import Derived.Laws.CopyRow
import Derived.Laws.NewFold
import Derived.Laws.StructEq
import Derived.ChangeKeysEq
import Derived.Laws.Strings
import Derived.Laws.Concat
import Derived.Laws.Append
import Derived.Laws.MakeOwn
import Derived.Laws.Slices
import Derived.Laws.Strings2
import Derived.Laws.BytesArg
set_option linter.unusedVariables false
set_option linter.unusedSimpArgs false
set_option linter.unnecessarySimpa false
namespace Go.Proofs.YtpmjpogcaglphaaDoor.A
open Go

/-- A thing's name: the round of the region that made it, the slot that it was put into. -/
abbrev Tag := Nat × Nat

inductive AV where
  | und
  | bool (b : Bool)
  | int (k : IntKind) (n : Int)
  | str (s : List UInt8)
  | agg (cs : List AV)
  | tup (vs : List AV)
  | nil
  | sl (n : Nat) (cs : List AV)
  | fptr (cs : List AV)
  | ref (k g : Tag) (off n : Nat)
  | ptr (k g : Tag) (off : Nat)
  | fn (f : Fn) (first captured : List AV)
  | mp (k : Tag)
  | nilmp
  | nilp

instance : Inhabited AV := ⟨.und⟩

structure Row where
  elem : TypeId
  sz : Nat
  gen : Tag
  ro : Bool
  plain : Bool
  cs : List AV

inductive AObj where
  | row (r : Row)
  | map (es : List (AV × AV))

structure AH where
  o : Tag → Option AObj
  nx : Nat

def upd (o : Tag → Option AObj) (t : Tag) (x : AObj) : Tag → Option AObj := fun u => if u = t then some x else o u
theorem upd_same (o : Tag → Option AObj) (t : Tag) (x : AObj) : upd o t x t = some x := if_pos rfl
theorem upd_ne (o : Tag → Option AObj) (t u : Tag) (x : AObj) (h : u ≠ t) : upd o t x u = o u := if_neg h

abbrev AAct := Nat → AV
def put (a : AAct) (t : Nat) (v : AV) : AAct := fun u => if u = t then v else a u
theorem put_same (a : AAct) (t : Nat) (v : AV) : put a t v t = v := if_pos rfl
theorem put_ne (a : AAct) (t u : Nat) (v : AV) (h : u ≠ t) : put a t v u = a u := if_neg h
def putO (a : AAct) (d : Option Nat) (v : AV) : AAct := match d with | some t => put a t v | none => a

abbrev noV : AV := .tup []

def isStr : Option TypeDesc → Bool
  | some .string => true
  | _ => false
def isBoolT : Option TypeDesc → Bool
  | some .bool => true
  | _ => false
def isIntT : Option TypeDesc → Bool
  | some (.int _) => true
  | _ => false
theorem isStr_some {d : Option TypeDesc} (h : isStr d = true) : d = some .string := by
  unfold isStr at h
  split at h
  · rfl
  · cases h
theorem isBoolT_some {d : Option TypeDesc} (h : isBoolT d = true) : d = some .bool := by
  unfold isBoolT at h
  split at h
  · rfl
  · cases h
theorem isIntT_some {d : Option TypeDesc} (h : isIntT d = true) : ∃ k, d = some (.int k) := by
  unfold isIntT at h
  split at h
  · exact ⟨_, rfl⟩
  · cases h

/-! ### constants, types -/
def ofCell : Value → Option AV
  | .bool b => some (.bool b)
  | .int k n => some (.int k n)
  | .string s => some (.str s.data.toList)
  | .slice none 0 0 => some .nil
  | .map none => some .nilmp
  | .pointer none => some .nilp
  | .func f first captured => if first.size = 0 ∧ captured.size = 0 then some (.fn f [] []) else none
  | _ => none
def ofCells : List Value → Option (List AV)
  | [] => some []
  | v :: vs => match ofCell v, ofCells vs with
    | some x, some xs => some (x :: xs)
    | _, _ => none
def ofConst : Value → Option AV
  | .agg cs => (ofCells cs.toList).map .agg
  | .tuple vs => if vs.size = 0 then some (.tup []) else none
  | v => ofCell v

section
variable (P : Program)
def tSize (t : TypeId) : Option Nat := (P.info? t).map (·.size)
def tBytes (t : TypeId) : Option Nat := (P.info? t).map (·.bytes)
def tAgg (t : TypeId) : Option Bool :=
  match P.underlying t with
  | some (.struct _) | some (.array _ _) => some true
  | some _ => some false
  | none => none
def tElem (t : TypeId) : Option TypeId :=
  match P.underlying t with
  | some (.slice e) => some e
  | _ => none
/-- A type's zero, as cells. -/
def tZero (t : TypeId) : Option (List AV) :=
  match (P.info? t).bind (·.zero) with
  | some v => ofCells v.cells.toList
  | none => none
/-- A struct's field: where it begins, its type. -/
def tField (t : TypeId) (f : Nat) : Option (Nat × TypeId) :=
  match P.underlying t with
  | some (.struct fs) => (fs[f]?).map fun x => (x.offset, x.type)
  | _ => none
def tArray (t : TypeId) : Option (Nat × TypeId) :=
  match P.underlying t with
  | some (.array n e) => some (n, e)
  | _ => none
end

/-! ### reading and writing cells -/
def AV.cells : AV → List AV
  | .agg cs => cs
  | v => [v]
/-- A value of a type out of a run of cells. -/
def take1 (isAgg : Bool) (size : Nat) (cs : List AV) : Option AV :=
  match isAgg with
  | true => if size ≤ cs.length then some (.agg (cs.take size)) else none
  | false => match cs with
    | x :: _ => some x
    | [] => none
def takeT (P : Program) (t : TypeId) (cs : List AV) : Option AV :=
  match tAgg P t, tSize P t with
  | some b, some n => take1 b n cs
  | _, _ => none
def splice (cs : List AV) (off : Nat) (new : List AV) : List AV := cs.take off ++ new ++ cs.drop (off + new.length)
/-- May these be stored as cells? -/
def cellOk : AV → Bool
  | .und | .agg _ | .tup _ => false
  | _ => true

def aRow (o : Tag → Option AObj) (k g : Tag) : Option Row :=
  match o k with
  | some (.row r) => if r.gen = g then some r else none
  | _ => none

/-! ### whole numbers, strings, equality -/
def aBits (op : BinOp) (k : IntKind) (x y : Int) : Option AV :=
  let a := BitVec.ofInt k.bits x
  let b := BitVec.ofInt k.bits y
  match op with
  | .and => some (.int k (k.wrap (a &&& b).toNat))
  | .or => some (.int k (k.wrap (a ||| b).toNat))
  | .xor => some (.int k (k.wrap (a ^^^ b).toNat))
  | .andNot => some (.int k (k.wrap (a &&& ~~~b).toNat))
  | _ => none
def aInt (op : BinOp) (k : IntKind) (x y : Int) : Option AV :=
  match op with
  | .add => some (.int k (k.wrap (x + y)))
  | .sub => some (.int k (k.wrap (x - y)))
  | .mul => some (.int k (k.wrap (x * y)))
  | .quo => if y = 0 then none else some (.int k (k.wrap (x.tdiv y)))
  | .rem => if y = 0 then none else some (.int k (x.tmod y))
  | .and => aBits .and k x y
  | .or => aBits .or k x y
  | .xor => aBits .xor k x y
  | .andNot => aBits .andNot k x y
  | .eql => some (.bool (x == y))
  | .neq => some (.bool (x != y))
  | .lss => some (.bool (decide (x < y)))
  | .leq => some (.bool (decide (x ≤ y)))
  | .gtr => some (.bool (decide (y < x)))
  | .geq => some (.bool (decide (y ≤ x)))
  | _ => none
def aShift (op : BinOp) (k : IntKind) (x y : Int) : Option AV :=
  if y < 0 then none else
  match op with
  | .shl => some (.int k (k.wrap (x * 2 ^ (min y.toNat k.bits))))
  | .shr => some (.int k (x.fdiv (2 ^ (min y.toNat k.bits))))
  | _ => none
def aStr (op : BinOp) (x y : List UInt8) : Option AV :=
  match op with
  | .add => if x.length + y.length ≤ 9223372036854775807 then some (.str (x ++ y)) else none
  | .eql => some (.bool (x == y))
  | .neq => some (.bool (!(x == y)))
  | .lss => some (.bool (Op.bytesLess x y))
  | .leq => some (.bool (Op.bytesLess x y || x == y))
  | .gtr => some (.bool (!(Op.bytesLess x y || x == y)))
  | .geq => some (.bool (!Op.bytesLess x y))
  | _ => none
inductive Leaf where
  | int | bool | str
def eqLeaf : Leaf → AV → AV → Option Bool
  | .int, .int k a, .int k' b => if k = k' then some (a == b) else none
  | .bool, .bool a, .bool b => some (a == b)
  | .str, .str a, .str b => some (a == b)
  | _, _, _ => none
def eqLeafs : List Leaf → List AV → List AV → Option Bool
  | [], [], [] => some true
  | l :: ls, x :: xs, y :: ys => match eqLeaf l x y, eqLeafs ls xs ys with
    | some a, some b => some (a && b)
    | _, _ => none
  | _, _, _ => none
def reps {α : Type} (l : List α) : Nat → List α
  | 0 => []
  | n + 1 => l ++ reps l n
/-- Types whose '==' is that of their cells, one by one: what their cells are. -/
def leafs (P : Program) : Nat → TypeId → Option (List Leaf)
  | 0, _ => none
  | d + 1, t =>
    match P.underlying t with
    | some .bool => if tSize P t = some 1 then some [.bool] else none
    | some (.int _) => if tSize P t = some 1 then some [.int] else none
    | some .string => if tSize P t = some 1 then some [.str] else none
    | some (.array n e) => match leafs P d e with
      | some l => if tSize P e = some l.length ∧ tSize P t = some (n * l.length) then some (reps l n) else none
      | none => none
    | some (.struct fs) => if P.stoodInHeld t then none else match fieldLeafs (leafs P d) (tSize P) fs.toList 0 with
      | some l => if tSize P t = some l.length then some l else none
      | none => none
    | _ => none
where
  fieldLeafs (f : TypeId → Option (List Leaf)) (size : TypeId → Option Nat) : List Field → Nat → Option (List Leaf)
    | [], _ => some []
    | x :: fs, off => match f x.type with
      | some l => if x.name ≠ "_" ∧ x.offset = off ∧ size x.type = some l.length then (fieldLeafs f size fs (off + l.length)).map (l ++ ·) else none
      | none => none
def eqLeaves (P : Program) (t : TypeId) : Option (List Leaf) := if P.eqGuardType P.depth t then none else if tAgg P t = some true then leafs P 20 t else none

def isSlT : Option TypeDesc → Bool
  | some (.slice _) => true
  | _ => false
/-- Is a slice nil? none: that can't be told. -/
def nilA : AV → Option Bool
  | .nil => some true
  | .sl n _ => if 0 < n then some false else none
  | .ref _ _ off n => if off = 0 ∨ 0 < n then some false else none
  | _ => none
def aBin (P : Program) (op : BinOp) (t : TypeId) (x y : AV) : Option AV :=
  match x, y with
  | .int k a, .int k' b =>
    match op with
    | .shl => aShift .shl k a b
    | .shr => aShift .shr k a b
    | _ => if k = k' then aInt op k a b else none
  | .str a, .str b => aStr op a b
  | .bool a, .bool b =>
    match op with
    | .eql => if isBoolT (P.underlying t) then some (.bool (a == b)) else none
    | .neq => if isBoolT (P.underlying t) then some (.bool (!(a == b))) else none
    | _ => none
  | .agg a, .agg b =>
    match op with
    | .eql => (eqLeaves P t).bind fun l => (eqLeafs l a b).map .bool
    | .neq => (eqLeaves P t).bind fun l => (eqLeafs l a b).map fun z => .bool (!z)
    | _ => none
  | x, .nil =>
    match op with
    | .eql => if isSlT (P.underlying t) then (nilA x).map .bool else none
    | .neq => if isSlT (P.underlying t) then (nilA x).map fun z => .bool (!z) else none
    | _ => none
  | _, _ => none
def aUn (op : UnOp) (x : AV) : Option AV :=
  match op, x with
  | .neg, .int k n => some (.int k (k.wrap (0 - n)))
  | .xor, .int k n => aBits .xor k (if k.signed then -1 else k.max) n
  | .not, .bool b => some (.bool (!b))
  | _, _ => none

/-! ### slices -/
/-- A slice of what is read: its length, its cells. -/
def sliceCells (o : Tag → Option AObj) : AV → Option (Nat × List AV)
  | .nil => some (0, [])
  | .sl n cs => some (n, cs)
  | .ref k g off n => match aRow o k g with
    | some r => some (n, (r.cs.drop off).take (n * r.sz))
    | none => none
  | _ => none
def asI : AV → Option Int
  | .int .i64 n => some n
  | _ => none
def aIndexAddr (P : Program) (t : TypeId) (x : AV) (i : Int) : Option AV :=
  match x with
  | .sl n cs => match (tElem P t).bind (tSize P) with
    | some s => if 0 ≤ i ∧ i < n then some (.fptr (cs.drop (i.toNat * s))) else none
    | none => none
  | .ref k g off n => match (tElem P t).bind (tSize P) with
    | some s => if 0 ≤ i ∧ i < n then some (.ptr k g (off + i.toNat * s)) else none
    | none => none
  | .fptr cs => match tArray P t with
    | some (n, e) => match tSize P e with
      | some s => if 0 ≤ i ∧ i < n then some (.fptr (cs.drop (i.toNat * s))) else none
      | none => none
    | none => none
  | .ptr k g off => match tArray P t with
    | some (n, e) => match tSize P e with
      | some s => if 0 ≤ i ∧ i < n then some (.ptr k g (off + i.toNat * s)) else none
      | none => none
    | none => none
  | _ => none
def aIndex (P : Program) (t : TypeId) (x : AV) (i : Int) : Option AV :=
  match x with
  | .agg cs => match tArray P t with
    | some (n, e) => match tSize P e with
      | some s => if 0 ≤ i ∧ i < n then takeT P e (cs.drop (i.toNat * s)) else none
      | none => none
    | none => none
  | .str s => if isStr (P.underlying t) then (if 0 ≤ i then (s[i.toNat]?).map fun b => .int .u8 b.toNat else none) else none
  | _ => none
/-- x[lo:hi], no bound beyond what is there. -/
def aSlice (P : Program) (t : TypeId) (x : AV) (lo hi : Option Int) : Option AV :=
  let l := lo.getD 0
  match x with
  | .str s =>
    let h := hi.getD s.length
    if isStr (P.underlying t) = true ∧ 0 ≤ l ∧ l ≤ h ∧ h ≤ s.length then some (.str ((s.take h.toNat).drop l.toNat)) else none
  | .nil =>
    let h := hi.getD 0
    if ((tElem P t).bind (tSize P)).isSome ∧ l = 0 ∧ h = 0 then some .nil else none
  | .sl n cs =>
    let h := hi.getD n
    match (tElem P t).bind (tSize P) with
    | some s => if 0 ≤ l ∧ l ≤ h ∧ h ≤ n then some (.sl (h.toNat - l.toNat) ((cs.take (h.toNat * s)).drop (l.toNat * s))) else none
    | none => none
  | .ref k g off n =>
    let h := hi.getD n
    match (tElem P t).bind (tSize P) with
    | some s => if 0 < s ∧ 0 ≤ l ∧ l ≤ h ∧ h ≤ n then some (.ref k g (off + l.toNat * s) (h.toNat - l.toNat)) else none
    | none => none
  | _ => none
/-- What is appended, or copied: its length in elements, its cells. -/
def srcOf (o : Tag → Option AObj) (x : AV) : Option (Nat × List AV) :=
  match x with
  | .str s => some (s.length, s.map fun b => .int .u8 b.toNat)
  | x => sliceCells o x
def rep (z : List AV) : Nat → List AV
  | 0 => []
  | n + 1 => z ++ rep z n

/-! ### what is handed to a function that only reads -/
/-- What is data already, or nothing that can be told. -/
def view0 : AV → AV
  | .bool b => .bool b
  | .int k n => .int k n
  | .str s => .str s
  | .nil => .sl 0 []
  | .sl n cs => .sl n cs
  | .fptr cs => .fptr cs
  | .nilmp => .nilmp
  | .nilp => .nilp
  | _ => .und
def view (o : Tag → Option AObj) : Nat → AV → AV
  | 0, v => view0 v
  | d + 1, v => match v with
    | .agg cs => .agg (cs.map (view o d))
    | .tup vs => .tup (vs.map (view o d))
    | .fn f first captured => .fn f (first.map (view o d)) (captured.map (view o d))
    | .ref k g off n => match aRow o k g with
      | some r => if off + n * r.sz ≤ r.cs.length then .sl n (((r.cs.drop off).take (n * r.sz)).map (view o d)) else .und
      | none => .und
    | .ptr k g off => match aRow o k g with
      | some r => .fptr ((r.cs.drop off).map (view o d))
      | none => .und
    | v => view0 v
def viewTags (o : Tag → Option AObj) : Nat → AV → List Tag
  | 0, _ => []
  | d + 1, v => match v with
    | .agg cs => cs.flatMap (viewTags o d)
    | .tup vs => vs.flatMap (viewTags o d)
    | .fn _ first captured => first.flatMap (viewTags o d) ++ captured.flatMap (viewTags o d)
    | .ref k g off n => match aRow o k g with
      | some r => k :: (((r.cs.drop off).take (n * r.sz)).flatMap (viewTags o d))
      | none => [k]
    | .ptr k g off => match aRow o k g with
      | some r => k :: ((r.cs.drop off).flatMap (viewTags o d))
      | none => [k]
    | _ => []
/-- Nothing in it leads to memory. -/
def flat : AV → Bool
  | .bool _ | .int _ _ | .str _ => true
  | .agg cs => flats cs
  | .tup vs => flats vs
  | _ => false
where
  flats : List AV → Bool
    | [] => true
    | x :: xs => flat x && flats xs
def sealed (ts : List Tag) (o : Tag → Option AObj) : Tag → Option AObj := fun t =>
  match o t with
  | some (.row r) => if ts.contains t then some (.row { r with ro := true }) else some (.row r)
  | x => x
def vDepth : Nat := 1012

end Go.Proofs.YtpmjpogcaglphaaDoor.A
/- A, part 2: operations, regions, code, calls: a program's own code run on abstract values. No theorem about the machine stands here. -/
namespace Go.Proofs.YtpmjpogcaglphaaDoor.A
open Go

inductive Mode where
  /-- called on what its arguments hold; hands back data; scalar: nothing in its result leads to memory -/
  | pure (scalar : Bool)
  /-- called on the caller's heap; frz: its result is handed back as data -/
  | raw (frz : Bool)
  /-- as pure, known by a contract of another make -/
  | ext (scalar : Bool)

structure Env where
  P : Program
  mode : FuncId → Mode
  ext : FuncId → List AV → Option AV

def opd (a : AAct) : Operand → Option AV
  | .tmp t => some (a t)
  | .const v => ofConst v
  | .func f => some (.fn (.func f) [] [])
  | .global _ => none
def opds (a : AAct) : List Operand → Option (List AV)
  | [] => some []
  | x :: xs => match opd a x, opds a xs with
    | some v, some vs => some (v :: vs)
    | _, _ => none
def opdI (a : AAct) (x : Operand) : Option Int := (opd a x).bind asI
/-- An optional bound: none outside, or a number. -/
def opdB (a : AAct) : Option Operand → Option (Option Int)
  | none => some none
  | some x => (opdI a x).map some

def mkRow (H : AH) (t : Tag) (elem sz : Nat) (plain : Bool) (cs : List AV) : AH := { H with o := upd H.o t (.row { elem, sz, gen := t, ro := false, plain, cs }) }
def putRow (H : AH) (t : Tag) (r : Row) : AH := { H with o := upd H.o t (.row r) }

/-- The parts of a literal, laid in. -/
def fillA (place : Nat → Option (Nat × Nat)) (cells : List AV) : List (Nat × AV) → Option (List AV)
  | [] => some cells
  | (i, v) :: rest =>
    match place i with
    | none => none
    | some (off, size) =>
      if v.cells.length = size ∧ off + size ≤ cells.length ∧ v.cells.all cellOk = true then fillA place (splice cells off v.cells) rest else none
def partsOf (a : AAct) : List (Nat × Operand) → Option (List (Nat × AV))
  | [] => some []
  | (i, x) :: ps => match opd a x, partsOf a ps with
    | some v, some vs => some ((i, v) :: vs)
    | _, _ => none
def fieldPlaces (P : Program) : List Field → Option (List (Nat × Nat))
  | [] => some []
  | f :: fs => match tSize P f.type, fieldPlaces P fs with
    | some s, some r => some ((f.offset, s) :: r)
    | _, _ => none
def aBuild (P : Program) (t : TypeId) (parts : List (Nat × AV)) : Option AV :=
  match tZero P t, P.underlying t with
  | some z, some (.struct fs) => match fieldPlaces P fs.toList with
    | some ps => (fillA (fun i => ps[i]?) z parts).map .agg
    | none => none
  | some z, some (.array _ e) => match tSize P e with
    | some s => (fillA (fun i => some (i * s, s)) z parts).map .agg
    | none => none
  | _, _ => none

def aAppend (P : Program) (tg : Tag) (t xt : TypeId) (s x : AV) (H : AH) : Option (AV × AH) :=
  match tElem P t with
  | none => none
  | some e =>
    match tSize P e, tBytes P e, tZero P e, srcOf H.o x with
    | some sz, some by_, some z, some (m, new) =>
      if z.length ≠ sz ∨ (isStr (P.underlying xt) = false ∧ (tElem P xt).isSome = false) ∨ new.length ≠ m * sz ∨ sz = 0 ∨ by_ = 0 ∨ new.all cellOk = false then none else
      match s with
      | .nil =>
        if m = 0 then some (.nil, H)
        else if m * by_ ≤ 140737488355328 then some (.ref tg tg 0 m, mkRow H tg e sz true new) else none
      | .ref k g 0 n =>
        match aRow H.o k g with
        | some r =>
          if r.elem = e ∧ r.sz = sz ∧ r.ro = false ∧ r.plain = true ∧ n * sz ≤ r.cs.length ∧ (n + m) * by_ ≤ 140737488355328 then
            some (.ref k tg 0 (n + m), putRow H k { r with gen := tg, cs := r.cs.take (n * sz) ++ new })
          else none
        | none => none
      | _ => none
    | _, _, _, _ => none

def aStore (P : Program) (t : TypeId) (p x : AV) (H : AH) : Option AH :=
  match p, tSize P t with
  | .ptr k g off, some n =>
    match aRow H.o k g with
    | some r =>
      if x.cells.length = n ∧ x.cells.all cellOk = true ∧ r.ro = false ∧ off + n ≤ r.cs.length then
        some (putRow H k { r with cs := splice r.cs off x.cells })
      else none
    | none => none
  | _, _ => none
def aLoad (P : Program) (t : TypeId) (p : AV) (H : AH) : Option AV :=
  match p with
  | .ptr k g off => match aRow H.o k g with
    | some r => takeT P t (r.cs.drop off)
    | none => none
  | .fptr cs => takeT P t cs
  | _ => none

def aCopy (P : Program) (t : TypeId) (d x : AV) (H : AH) : Option (AV × AH) :=
  match (tElem P t).bind (tSize P), srcOf H.o x with
  | some sz, some (m, new) =>
    match d with
    | .ref k g off n =>
      match aRow H.o k g with
      | some r =>
        let c := Nat.min m n
        if (off = 0 ∨ 0 < n) ∧ r.sz = sz ∧ r.ro = false ∧ off + n * sz ≤ r.cs.length ∧ new.length = m * sz ∧ new.all cellOk = true then
          some (.int .i64 c, putRow H k { r with cs := splice r.cs off (new.take (c * sz)) })
        else none
      | none => none
    | .nil => if new.length = m * sz then some (.int .i64 0, H) else none
    | _ => none
  | _, _ => none

def aMakeSlice (P : Program) (tg : Tag) (t : TypeId) (l c : Int) (H : AH) : Option (AV × AH) :=
  match tElem P t with
  | none => none
  | some e =>
    match tSize P e, tBytes P e, tZero P e with
    | some sz, some by_, some z =>
      if 0 ≤ l ∧ l ≤ c ∧ c * by_ ≤ 140737488355328 ∧ c ≤ 140737488355328 ∧ z.length = sz ∧ 0 < sz then
        some (.ref tg tg 0 l.toNat, mkRow H tg e sz true (rep z l.toNat))
      else none
    | _, _, _ => none

def aBuildSlice (P : Program) (tg : Tag) (t : TypeId) (len : Nat) (parts : List (Nat × AV)) (H : AH) : Option (AV × AH) :=
  match tElem P t with
  | none => none
  | some e =>
    match tSize P e, tZero P e with
    | some sz, some z =>
      if len * sz ≤ 16777216 ∧ z.length = sz ∧ 0 < sz then
        match fillA (fun i => some (i * sz, sz)) (rep z len) parts with
        | some cs => some (.ref tg tg 0 len, mkRow H tg e sz true cs)
        | none => none
      else none
    | _, _ => none

def aBytes : List AV → Option (List UInt8)
  | [] => some []
  | .int .u8 n :: cs => match aBytes cs with
    | some bs => some (UInt8.ofNat n.toNat :: bs)
    | none => none
  | _ => none
def aConvert (P : Program) (tg : Tag) (src dst : TypeId) (x : AV) (H : AH) : Option (AV × AH) :=
  match P.underlying src, P.underlying dst, x with
  | some _, some (.int k), .int _ n => some (.int k (k.wrap n), H)
  | some _, some .string, .str s => some (.str s, H)
  | some .string, some (.slice e), .str s =>
    match P.underlying e with
    | some (.int .u8) => some (.ref tg tg 0 s.length, mkRow H tg e 1 false (s.map fun b => .int .u8 b.toNat))
    | _ => none
  | some (.slice e), some .string, x =>
    match P.underlying e with
    | some (.int .u8) => match sliceCells H.o x with
      | some (n, cs) => if cs.length = n then (aBytes cs).map fun bs => (.str bs, H) else none
      | none => none
    | _ => none
  | _, _, _ => none

/-! ### maps -/
/-- Whole numbers, strings: keys that are held against each other by their cells. -/
def isI64 : Option TypeDesc → Bool
  | some (.int .i64) => true
  | _ => false
def twoInts : Option (List Leaf) → Bool
  | some [.int, .int] => true
  | _ => false
/-- Two whole numbers as a key. -/
def pairKey (P : Program) (kt : TypeId) : Bool :=
  match P.underlying kt with
  | some (.array n e) => n == 2 && isI64 (P.underlying e) && decide (tSize P e = some 1) && decide (tAgg P e = some false) && decide (tAgg P kt = some true) && twoInts (eqLeaves P kt)
  | _ => false
def keyOk (P : Program) (kt : TypeId) (k : AV) : Bool :=
  match P.underlying kt, k with
  | some (.int d), .int d' _ => decide (d = d')
  | some .string, .str _ => true
  | some (.array _ _), .agg [.int .i64 _, .int .i64 _] => pairKey P kt
  | _, _ => false
def eqKey (x y : AV) : Option Bool :=
  match x, y with
  | .int k a, .int k' b => if k = k' then some (a == b) else none
  | .str a, .str b => some (a == b)
  | .agg [.int .i64 a, .int .i64 b], .agg [.int .i64 a', .int .i64 b'] => some (a == a' && b == b')
  | _, _ => none
def findA (k : AV) : List (AV × AV) → Option (Option AV)
  | [] => some none
  | (q, v) :: es => match eqKey k q, findA k es with
    | some true, some _ => some (some v)
    | some false, some r => some r
    | _, _ => none
def putA (k v : AV) : List (AV × AV) → List (AV × AV)
  | [] => [(k, v)]
  | (q, u) :: es => if eqKey k q = some true then (k, v) :: es else (q, u) :: putA k v es
def mapAt (o : Tag → Option AObj) (m : AV) : Option (List (AV × AV)) :=
  match m with
  | .nilmp => some []
  | .mp k => match o k with
    | some (.map es) => some es
    | _ => none
  | _ => none
def isUnd : AV → Bool
  | .und => true
  | _ => false
/-- A type's zero that is one cell. -/
def zeroOne (P : Program) (t : TypeId) : Option AV := ((P.info? t).bind (·.zero)).bind ofCell
def aLookup (P : Program) (t : TypeId) (m k : AV) (commaOk : Bool) (H : AH) : Option AV :=
  match P.underlying t with
  | some (.map kt et) =>
    if keyOk P kt k = true then
      match mapAt H.o m, zeroOne P et with
      | some es, some z => match findA k es with
        | some (some v) => some (if commaOk then .tup [v, .bool true] else v)
        | some none => some (if commaOk then .tup [z, .bool false] else z)
        | none => none
      | _, _ => none
    else none
  | _ => none
def aMapUpdate (P : Program) (t : TypeId) (m k v : AV) (H : AH) : Option AH :=
  match P.underlying t, m with
  | some (.map kt _), .mp tg =>
    if keyOk P kt k = true then
      match H.o tg with
      | some (.map es) => match findA k es with
        | some _ => some { H with o := upd H.o tg (.map (putA k v es)) }
        | none => none
      | _ => none
    else none
  | _, _ => none

def aLen (P : Program) (o : Tag → Option AObj) (t : TypeId) (x : AV) : Option AV :=
  match P.underlying t, x with
  | some .string, .str s => some (.int .i64 s.length)
  | some (.array n _), _ => some (.int .i64 n)
  | some (.slice _), .nil => some (.int .i64 0)
  | some (.slice _), .sl n _ => some (.int .i64 n)
  | some (.slice _), .ref _ _ _ n => some (.int .i64 n)
  | some (.map _ _), m => (mapAt o m).map fun es => .int .i64 es.length
  | _, _ => none
def aMax : List AV → Option AV
  | [.int k x, .int k' y] => if k = k' then some (.int k (if y > x then y else x)) else none
  | _ => none
def aMin : List AV → Option AV
  | [.int k x, .int k' y] => if k = k' then some (.int k (if y < x then y else x)) else none
  | _ => none

/-! ### one operation -/
abbrev CallP := FuncId → List AV → Option AV
abbrev CallR := FuncId → List AV → AH → Option (AV × AH)

def freezeP (scalar : Bool) (args : List AV) (r : AV) (H : AH) : Option (AV × AH) :=
  match scalar with
  | true => if flat r then some (r, H) else none
  | false => some (r, { H with o := sealed (args.flatMap (viewTags H.o vDepth)) H.o })
def freezeR (frz : Bool) (v : AV) (H : AH) : AV × AH :=
  if frz then (view H.o vDepth v, if flat v then H else { H with o := sealed (viewTags H.o vDepth v) H.o }) else (v, H)
def aCall (E : Env) (callP : CallP) (callR : CallR) (f : AV) (args : List AV) (H : AH) : Option (AV × AH) :=
  match f with
  | .fn (.func g) first captured =>
    let as_ := first ++ args ++ captured
    match E.mode g with
    | .pure sc => (callP g (as_.map (view H.o vDepth))).bind fun r => freezeP sc as_ r H
    | .ext sc => (E.ext g (as_.map (view H.o vDepth))).bind fun r => freezeP sc as_ r H
    | .raw frz => (callR g as_ H).map fun p => freezeR frz p.1 p.2
  | _ => none

def needD (d : Option Nat) (f : Nat → Option (AV × AH)) : Option (AV × AH) := match d with | some t => f t | none => none

def evalOp (E : Env) (callP : CallP) (callR : CallR) (st : Nat) (o : Oper) (a : AAct) (H : AH) : Option (AV × AH) :=
  match o.op with
  | .move x => (opd a x).map (·, H)
  | .assign x => (opd a x).map (·, H)
  | .pick c x y => match opd a c with
    | some (.bool true) => (opd a x).map (·, H)
    | some (.bool false) => (opd a y).map (·, H)
    | _ => none
  | .alloc e => match o.dst, tZero E.P e with
    | some d, some z => some (.ptr (st, d) (st, d) 0, mkRow H (st, d) e 1 true z)
    | _, _ => none
  | .box e x => match o.dst, opd a x with
    | some d, some v => if v.cells.all cellOk then some (.ptr (st, d) (st, d) 0, mkRow H (st, d) e 1 true v.cells) else none
    | _, _ => none
  | .build t parts => (partsOf a parts.toList).bind fun ps => (aBuild E.P t ps).map (·, H)
  | .buildSlice t len parts => needD o.dst fun d => (partsOf a parts.toList).bind fun ps => aBuildSlice E.P (st, d) t len ps H
  | .load t x => (opd a x).bind fun p => (aLoad E.P t p H).map (·, H)
  | .store t p x => (opd a p).bind fun pv => (opd a x).bind fun v => (aStore E.P t pv v H).map (noV, ·)
  | .nilCheck x => match opd a x with
    | some (.ptr k g off) => some (.ptr k g off, H)
    | some (.fptr cs) => some (.fptr cs, H)
    | some (.fn (.func f) first captured) => some (.fn (.func f) first captured, H)
    | _ => none
  | .binOp op t x y _ => (opd a x).bind fun u => (opd a y).bind fun v => (aBin E.P op t u v).map (·, H)
  | .unOp op _ x => (opd a x).bind fun u => (aUn op u).map (·, H)
  | .convert s t x => needD o.dst fun d => (opd a x).bind fun u => aConvert E.P (st, d) s t u H
  | .makeFunc fn first captured => match opds a first.toList, opds a captured.toList with
    | some f, some c => some (.fn fn f c, H)
    | _, _ => none
  | .makeMap _ none => match o.dst with
    | some d => some (.mp (st, d), { H with o := upd H.o (st, d) (.map []) })
    | none => none
  | .makeSlice t l c => needD o.dst fun d => (opdI a l).bind fun lv => (opdI a c).bind fun cv => aMakeSlice E.P (st, d) t lv cv H
  | .slice t x lo hi none => (opd a x).bind fun v => (opdB a lo).bind fun l => (opdB a hi).bind fun h => (aSlice E.P t v l h).map (·, H)
  | .fieldAddr t x f => match opd a x, tField E.P t f with
    | some (.ptr k g off), some (o', ft) => if (tSize E.P ft).getD 0 = 0 then none else some (.ptr k g (off + o'), H)
    | some (.fptr cs), some (o', ft) => if (tSize E.P ft).getD 0 = 0 then none else some (.fptr (cs.drop o'), H)
    | _, _ => none
  | .field t x f => match opd a x, tField E.P t f with
    | some (.agg cs), some (o', ft) => (takeT E.P ft (cs.drop o')).map (·, H)
    | _, _ => none
  | .indexAddr t x i => (opd a x).bind fun v => (opdI a i).bind fun j => (aIndexAddr E.P t v j).map (·, H)
  | .index t x i => (opd a x).bind fun v => (opdI a i).bind fun j => (aIndex E.P t v j).map (·, H)
  | .lookup t m k ok => (opd a m).bind fun mv => (opd a k).bind fun kv => (aLookup E.P t mv kv ok H).map (·, H)
  | .mapUpdate t m k v => (opd a m).bind fun mv => (opd a k).bind fun kv => (opd a v).bind fun vv => (aMapUpdate E.P t mv kv vv H).map (noV, ·)
  | .insert t m k v => (opd a m).bind fun mv => (opd a k).bind fun kv => (opd a v).bind fun vv => (aMapUpdate E.P t mv kv vv H).map (noV, ·)
  | .extract t i => match opd a t with
    | some (.tup vs) => (vs[i]?).map (·, H)
    | _ => none
  | .call c =>
    (opds a c.args.toList).bind fun args =>
    match c.callee with
    | .value f => (opd a f).bind fun fv => aCall E callP callR fv args H
    | .builtin .len => match args with
      | [x] => (if 0 < c.argTypes.size then aLen E.P H.o (c.argTypes.getD 0 0) x else none).map (·, H)
      | _ => none
    | .builtin .append => match args with
      | [s, x] => if c.argTypes.size = 2 then needD o.dst fun d => aAppend E.P (st, d) (c.argTypes.getD 0 0) (c.argTypes.getD 1 0) s x H else none
      | _ => none
    | .builtin .copy => match args with
      | [s, x] => if 0 < c.argTypes.size then aCopy E.P (c.argTypes.getD 0 0) s x H else none
      | _ => none
    | .builtin .max => (aMax args).map (·, H)
    | .builtin .min => (aMin args).map (·, H)
    | _ => none
  | _ => none

/-! ### a region -/
def yieldedA (ops : Array Oper) (a : AAct) (j : Nat) : Option (Option Bool) :=
  match (ops[j]?).bind (·.dst) with
  | none => some none
  | some d => match a d with
    | .bool b => some (some b)
    | .und => none
    | .mp _ => none
    | _ => some none
/-- Is it to be done? none: that can't be told. -/
def wantedA (ops : Array Oper) (a : AAct) (o : Oper) : Option Bool :=
  match o.guard with
  | none => some true
  | some (j, want) => (yieldedA ops a j).map fun y => y == some want
def step1 (E : Env) (callP : CallP) (callR : CallR) (st : Nat) (ops : Array Oper) (o : Oper) (a : AAct) (H : AH) : Option (AAct × AH) :=
  match wantedA ops a o with
  | some true => (evalOp E callP callR st o a H).map fun p => (putO a o.dst p.1, p.2)
  | some false => some (putO a o.dst noV, H)
  | none => none
def steps (E : Env) (callP : CallP) (callR : CallR) (st : Nat) (ops : Array Oper) : List Oper → AAct → AH → Option (AAct × AH)
  | [], a, H => some (a, H)
  | o :: l, a, H => match step1 E callP callR st ops o a H with
    | some (a', H') => steps E callP callR st ops l a' H'
    | none => none

end Go.Proofs.YtpmjpogcaglphaaDoor.A
/- A, part 3: regions that draw their order (a check that no order matters), code, calls. No theorem about the machine stands here. -/
namespace Go.Proofs.YtpmjpogcaglphaaDoor.A
open Go

/-! ### what an operation touches -/
structure FP where
  r : List Tag
  w : List Tag
  all : Bool
def FP.none_ : FP := ⟨[], [], false⟩
def tagOf : AV → List Tag
  | .ref k _ _ _ => [k]
  | .ptr k _ _ => [k]
  | .mp k => [k]
  | _ => []
def tagO (v : Option AV) : List Tag := match v with | some x => tagOf x | none => []
def tagsV (o : Tag → Option AObj) (v : Option AV) : List Tag := match v with | some x => viewTags o vDepth x | none => []
/-- Functions whose runs on the caller's memory leave all that lay before as it was. -/
def keeps (f : FuncId) : Bool :=
  if f = 79 then true else
  if f = 67 then true else
  if f = 89 then true else
  false
def rawW (z : Bool) (g : FuncId) (n : Nat) : List Tag := if z then [] else if keeps g then [(n, 0)] else []
def below (t b : Tag) : Bool := decide (t.1 < b.1)
def foot (E : Env) (st : Nat) (ops : Array Oper) (o : Oper) (a : AAct) (H : AH) : FP :=
  if wantedA ops a o = some true then
    let own : List Tag := match o.dst with | some d => [(st, d)] | none => []
    match o.op with
    | .load _ x => ⟨tagO (opd a x), [], false⟩
    | .store _ p _ => ⟨[], tagO (opd a p), false⟩
    | .alloc _ => ⟨[], own, false⟩
    | .box _ _ => ⟨[], own, false⟩
    | .buildSlice _ _ _ => ⟨[], own, false⟩
    | .makeSlice _ _ _ => ⟨[], own, false⟩
    | .makeMap _ _ => ⟨[], own, false⟩
    | .convert _ _ x => ⟨tagO (opd a x), own, false⟩
    | .lookup _ m _ _ => ⟨tagO (opd a m), [], false⟩
    | .mapUpdate _ m _ _ => ⟨[], tagO (opd a m), false⟩
    | .insert _ m _ _ => ⟨[], tagO (opd a m), false⟩
    | .call c =>
      let args := c.args.toList
      match c.callee with
      | .builtin .append => ⟨tagO (args[1]?.bind (opd a)), own ++ tagO (args[0]?.bind (opd a)), false⟩
      | .builtin .copy => ⟨tagO (args[1]?.bind (opd a)), tagO (args[0]?.bind (opd a)), false⟩
      | .builtin _ => ⟨args.flatMap fun x => tagO (opd a x), [], false⟩
      | .value f =>
        match opd a f with
        | some (.fn (.func g) first captured) =>
          let ts := (first ++ (args.filterMap (opd a)) ++ captured).flatMap (viewTags H.o vDepth)
          match E.mode g with
          | .pure true => ⟨ts, [], false⟩
          | .ext true => ⟨ts, [], false⟩
          | .pure false => ⟨ts, ts, false⟩
          | .ext false => ⟨ts, ts, false⟩
          | .raw z => ⟨[], rawW z g H.nx, true⟩
        | _ => ⟨[], [], true⟩
      | _ => ⟨[], [], true⟩
    | _ => FP.none_
  else FP.none_
def disj (x y : FP) : Bool :=
  if x.all then !y.all && (y.w.isEmpty && y.r.all fun t => x.w.any (below t))
  else if y.all then x.w.isEmpty && x.r.all fun t => y.w.any (below t)
  else x.w.all (fun t => !y.r.contains t && !y.w.contains t) && y.w.all (fun t => !x.r.contains t)
def stepsF (E : Env) (callP : CallP) (callR : CallR) (st : Nat) (ops : Array Oper) : List Oper → AAct → AH → Option (AAct × AH × List FP)
  | [], a, H => some (a, H, [])
  | o :: l, a, H => match step1 E callP callR st ops o a H with
    | some (a', H') => match stepsF E callP callR st ops l a' H' with
      | some (a'', H'', fs) => some (a'', H'', foot E st ops o a H :: fs)
      | none => none
    | none => none

/-! ### which operations an operation waits for -/
/-- What one list names that the other does not yet, ahead of it. -/
def once : List Nat → List Nat → List Nat
  | [], acc => acc
  | x :: l, acc => once l (if acc.contains x then acc else x :: acc)
theorem mem_once {i : Nat} : ∀ {l acc : List Nat}, i ∈ once l acc → i ∈ l ∨ i ∈ acc
  | [], acc, h => .inr h
  | x :: l, acc, h => by
    rw [once] at h
    rcases mem_once h with h | h
    · exact .inl (List.mem_cons_of_mem _ h)
    · split at h
      · exact .inr h
      · rcases List.mem_cons.1 h with rfl | h
        · exact .inl (List.mem_cons_self ..)
        · exact .inr h
def before1 (done : List (List Nat)) (i : Nat) (o : Oper) : Option (List Nat) :=
  if o.after.toList.all (fun e => !Region.binds .any e || decide (e.on < i)) then
    some (once ((o.after.toList.filter (Region.binds .any)).flatMap fun e => e.on :: (done[e.on]?).getD []) [])
  else none
def befores : List Oper → List (List Nat) → Option (List (List Nat))
  | [], done => some done
  | o :: l, done => match before1 done done.length o with
    | some b => befores l (done ++ [b])
    | none => none
/-- 0: touches no memory; 1: reads; 2: writes, or makes. -/
def touch (E : Env) (o : Oper) : Nat :=
  match o.op with
  | .load _ _ => 1
  | .lookup _ _ _ _ => 1
  | .store _ _ _ => 2
  | .alloc _ => 2
  | .box _ _ => 2
  | .buildSlice _ _ _ => 2
  | .makeSlice _ _ _ => 2
  | .makeMap _ _ => 2
  | .convert _ _ _ => 2
  | .mapUpdate _ _ _ _ => 2
  | .insert _ _ _ _ => 2
  | .call c => match c.callee with
    | .builtin .append => 2
    | .builtin .copy => 2
    | .builtin _ => 1
    | .value (.func g) => match E.mode g with
      | .pure true => 1
      | .ext true => 1
      | _ => 2
    | _ => 2
  | _ => 0
def isSelect (o : Oper) : Bool := match o.op with | .select _ _ => true | _ => false
/-- The pairs of operations whose order is open and that may meet in memory; none: some pair is not told apart. -/
def openPairs (E : Env) (ops : Array Oper) : Option (List (Nat × Nat)) :=
  match befores ops.toList [] with
  | none => none
  | some bs =>
    let l := ops.toList.zipIdx
    if l.any (fun p => isSelect p.1) then none else
    let prs := l.flatMap fun (y, j) => (l.take j).filterMap fun (x, i) => if ((bs[j]?).getD []).contains i then none else some (x, i, y, j)
    if prs.all (fun (x, _, y, _) => x.apart ops y) then
      some ((prs.filter fun (x, _, y, _) => (touch E x == 2 && touch E y != 0) || (touch E y == 2 && touch E x != 0)).map fun (_, i, _, j) => (i, j))
    else none
def racesOk (fs : List FP) (prs : List (Nat × Nat)) : Bool :=
  prs.all fun (i, j) => match fs[i]?, fs[j]? with
    | some x, some y => disj x y
    | _, _ => false

/-! ### code -/
inductive Out where
  | normal
  | exit (id : Nat)
  | goto (l : Nat)
  | ret

abbrev Res := Option (Out × AAct × AH)
def evalRegion (E : Env) (callP : CallP) (callR : CallR) (ops : Array Oper) (draw : Bool) (a : AAct) (H : AH) : Res :=
  match draw with
  | false => (steps E callP callR H.nx ops ops.toList a { H with nx := H.nx + 1 }).map fun p => (.normal, p.1, p.2)
  | true =>
    match openPairs E ops with
    | some [] => (steps E callP callR H.nx ops ops.toList a { H with nx := H.nx + 1 }).map fun p => (.normal, p.1, p.2)
    | some prs => match stepsF E callP callR H.nx ops ops.toList a { H with nx := H.nx + 1 } with
      | some (a', H', fs) => if racesOk fs prs then some (.normal, a', H') else none
      | none => none
    | none => none
def seqR (r : Res) (f : AAct → AH → Res) : Res :=
  match r with
  | some (.normal, a, H) => f a H
  | r => r
def iter (f : AAct → AH → Res) : Nat → AAct → AH → Res
  | 0, _, _ => none
  | n + 1, a, H => seqR (f a H) (iter f n)
/-- Jumps to labels of the scope's own body. -/
def jumps (has : Nat → Bool) (g : Nat → AAct → AH → Res) : Nat → Res → Res
  | 0, _ => none
  | n + 1, r => match r with
    | some (.goto l, a, H) => if has l then jumps has g n (g l a H) else r
    | r => r
def evalC (E : Env) (callP : CallP) (callR : CallR) (k : Nat) : Option Nat → Code → AAct → AH → Res
  | none, .skip, a, H => some (.normal, a, H)
  | none, .label _, a, H => some (.normal, a, H)
  | some l, .label l', a, H => if l' = l then some (.normal, a, H) else none
  | none, .region _ ops draw, a, H => evalRegion E callP callR ops draw a H
  | none, .seq x y, a, H => seqR (evalC E callP callR k none x a H) (evalC E callP callR k none y)
  | some l, .seq x y, a, H =>
    if (findLabel x l).isSome then seqR (evalC E callP callR k (some l) x a H) (evalC E callP callR k none y)
    else evalC E callP callR k (some l) y a H
  | none, .cond c x y, a, H => match opd a c with
    | some (.bool true) => evalC E callP callR k none x a H
    | some (.bool false) => evalC E callP callR k none y a H
    | _ => none
  | none, .block id c, a, H => match evalC E callP callR k none c a H with
    | some (.exit id', a', H') => if id' = id then some (.normal, a', H') else some (.exit id', a', H')
    | r => r
  | none, .loop c, a, H => iter (evalC E callP callR k none c) k a H
  | none, .exit id, a, H => some (.exit id, a, H)
  | none, .goto l, a, H => some (.goto l, a, H)
  | none, .ret, a, H => some (.ret, a, H)
  | none, .scope c, a, H => jumps (fun l => (findLabel c l).isSome) (fun l => evalC E callP callR k (some l) c) k (evalC E callP callR k none c a H)
  | _, _, _, _ => none

/-! ### calls -/
def creates (o : Oper) : Bool :=
  match o.op with
  | .alloc _ => true
  | .box _ _ => true
  | .buildSlice _ _ _ => true
  | .makeSlice _ _ _ => true
  | .makeMap _ _ => true
  | .convert _ _ _ => true
  | .call c => match c.callee with
    | .builtin .append => true
    | _ => false
  | _ => false

def clash (x y : Oper) : Bool := creates x && creates y && x.dst.isSome && x.dst == y.dst
def newsOk : List Oper → Bool
  | [] => true
  | x :: l => l.all (fun y => !clash x y) && newsOk l
def opsDst (n : Nat) (ops : List Oper) : Bool := ops.all fun o => match o.dst with | some d => decide (d < n) | none => true
def codeDst (n : Nat) : Code → Bool
  | .region _ ops _ => opsDst n ops.toList && newsOk ops.toList
  | .seq a b => codeDst n a && codeDst n b
  | .cond _ a b => codeDst n a && codeDst n b
  | .block _ c => codeDst n c
  | .loop c => codeDst n c
  | .scope c => codeDst n c
  | .rangeFunc _ _ a b => codeDst n a && codeDst n b
  | _ => true
/-- The model's own name for a function without text; such a one is not run here. -/
def fnOk (fn : Func) : Bool := !(fn.name == "runtime.NumGoroutine") && (match fn.body with | some c => codeDst fn.ntmps c | none => false)
def begin_ (args : List AV) : AAct := fun t => (args[t]?).getD noV
def result1 (P : Program) (a : AAct) (H : AH) : ResultVar → Option AV
  | .tmp t => some (a t)
  | .cell ad t => aLoad P t (a ad) H
def resultsL (P : Program) (a : AAct) (H : AH) : List ResultVar → Option (List AV)
  | [] => some []
  | r :: rs => match result1 P a H r, resultsL P a H rs with
    | some v, some vs => some (v :: vs)
    | _, _ => none
def tup1 : List AV → AV
  | [v] => v
  | vs => .tup vs
def runBody (E : Env) (callP : CallP) (callR : CallR) (k : Nat) (f : FuncId) (args : List AV) (H : AH) : Option (AV × AH) :=
  match E.P.funcs[f]? with
  | none => none
  | some fn =>
    if fnOk fn && decide (args.length ≤ fn.ntmps) then
      match fn.body with
      | none => none
      | some c => match evalC E callP callR k none c (begin_ args) H with
        | some (.normal, a, H') => (resultsL E.P a H' fn.results.toList).map fun vs => (tup1 vs, H')
        | some (.ret, a, H') => (resultsL E.P a H' fn.results.toList).map fun vs => (tup1 vs, H')
        | _ => none
    else none
def noHeap : AH := { o := fun _ => none, nx := 0 }
/-- Code that goes straight on and writes nothing. -/
def readsOnly (E : Env) : Code → Bool
  | .region _ ops _ => ops.toList.all fun o => decide (touch E o ≤ 1)
  | .seq x y => readsOnly E x && readsOnly E y
  | .cond _ x y => readsOnly E x && readsOnly E y
  | .ret => true
  | .skip => true
  | _ => false
def readsF (E : Env) (f : FuncId) : Bool := match E.P.funcs[f]? with
  | some fn => match fn.body with
    | some c => readsOnly E c
    | none => false
  | none => false
def calls (E : Env) : Nat → CallP × CallR
  | 0 => (fun _ _ => none, fun _ _ _ => none)
  | n + 1 =>
    (fun f args => (runBody E (calls E n).1 (calls E n).2 (n + 1) f args noHeap).map fun p => view p.2.o vDepth p.1,
     fun f args H => if keeps f && !readsF E f then none else runBody E (calls E n).1 (calls E n).2 (n + 1) f args H)

end Go.Proofs.YtpmjpogcaglphaaDoor.A
/- A, part 4: what abstract values say of the machine's: the relation, and that it stays where nothing that it speaks of is written. -/
namespace Go.Proofs.YtpmjpogcaglphaaDoor.A
open Go

/-- Data: S: the blocks that nobody writes. -/
inductive PR (S : Nat → Prop) (w : World) : AV → Value → Prop
  | und (v) : PR S w .und v
  | bool (b) : PR S w (.bool b) (.bool b)
  | int (k n) : PR S w (.int k n) (.int k n)
  | str (s : List UInt8) : PR S w (.str s) (.string ⟨s.toArray⟩)
  | agg (cs : List AV) (vs : Array Value) (hl : vs.size = cs.length) (h : ∀ (j : Nat) (x : AV) (u : Value), cs[j]? = some x → vs[j]? = some u → PR S w x u) (h1 : ∀ (j : Nat) (u : Value), vs[j]? = some u → u.oneCell' = true) : PR S w (.agg cs) (.agg vs)
  | tup (cs : List AV) (vs : Array Value) (hl : vs.size = cs.length) (h : ∀ (j : Nat) (x : AV) (u : Value), cs[j]? = some x → vs[j]? = some u → PR S w x u) : PR S w (.tup cs) (.tuple vs)
  | fn (f : Fn) (fs cs : List AV) (us vs : Array Value) (hl : us.size = fs.length) (hl' : vs.size = cs.length) (h : ∀ (j : Nat) (x : AV) (u : Value), fs[j]? = some x → us[j]? = some u → PR S w x u) (h' : ∀ (j : Nat) (x : AV) (u : Value), cs[j]? = some x → vs[j]? = some u → PR S w x u) : PR S w (.fn f fs cs) (.func f us vs)
  | nil : PR S w .nil (.slice none 0 0)
  | nilmp : PR S w .nilmp (.map none)
  | nilp : PR S w .nilp (.pointer none)
  | sl (n : Nat) (cs : List AV) (A : Option Addr) (cap : Nat) (u : Nat → Value) (hn : n ≤ cap) (hA : 0 < n → ∃ a, A = some a) (ha : cs ≠ [] → ∃ a, A = some a ∧ S a.block) (hc : ∀ (a : Addr) (j : Nat) (x : AV), A = some a → cs[j]? = some x → w.cell? (a.add j) = some (u j))
      (h1 : ∀ (j : Nat) (x : AV), cs[j]? = some x → (u j).oneCell' = true) (h : ∀ (j : Nat) (x : AV), cs[j]? = some x → PR S w x (u j)) : PR S w (.sl n cs) (.slice A n cap)
  | fptr (cs : List AV) (a : Addr) (u : Nat → Value) (ha : cs ≠ [] → S a.block) (hc : ∀ (j : Nat) (x : AV), cs[j]? = some x → w.cell? (a.add j) = some (u j))
      (h1 : ∀ (j : Nat) (x : AV), cs[j]? = some x → (u j).oneCell' = true) (h : ∀ (j : Nat) (x : AV), cs[j]? = some x → PR S w x (u j)) : PR S w (.fptr cs) (.pointer (some a))

theorem add_block (a : Addr) (n : Nat) : (a.add n).block = a.block := by unfold Addr.add; split <;> rfl
theorem add_add (a : Addr) (i j : Nat) : (a.add i).add j = a.add (i + j) := by
  unfold Addr.add
  by_cases hi : i = 0 <;> by_cases hj : j = 0 <;> simp [hi, hj, Nat.add_assoc]

theorem PR.mono {S S' : Nat → Prop} {w w' : World} (hS : ∀ b, S b → S' b) (hw : ∀ b, S b → w'.heap[b]? = w.heap[b]?) {x : AV} {v : Value} (h : PR S w x v) : PR S' w' x v := by
  induction h with
  | und v => exact .und v
  | bool b => exact .bool b
  | int k n => exact .int k n
  | str s => exact .str s
  | agg cs vs hl _ h1 ih => exact .agg cs vs hl ih h1
  | tup cs vs hl _ ih => exact .tup cs vs hl ih
  | fn f fs cs us vs hl hl' _ _ ih ih' => exact .fn f fs cs us vs hl hl' ih ih'
  | nil => exact .nil
  | nilmp => exact .nilmp
  | nilp => exact .nilp
  | sl n cs A cap u hn hA ha hc h1 _ ih =>
    refine .sl n cs A cap u hn hA (fun hne => ?_) (fun a j x hA hx => ?_) h1 ih
    · obtain ⟨a, e, hb⟩ := ha hne
      exact ⟨a, e, hS _ hb⟩
    · have hne : cs ≠ [] := fun e => by rw [e] at hx; simp at hx
      obtain ⟨a', e, hb⟩ := ha hne
      obtain rfl : a = a' := by rw [hA] at e; injection e
      rw [World.cell?_of_block (w := w) (by rw [add_block]; exact hw _ hb)]
      exact hc a j x hA hx
  | fptr cs a u ha hc h1 _ ih =>
    refine .fptr cs a u (fun hne => hS _ (ha hne)) (fun j x hx => ?_) h1 ih
    have hne : cs ≠ [] := fun e => by rw [e] at hx; simp at hx
    rw [World.cell?_of_block (w := w) (by rw [add_block]; exact hw _ (ha hne))]
    exact hc j x hx

/-- What the relation hangs on. φ: where a thing lies; T: the names that have been given. -/
structure Ctx where
  S : Nat → Prop
  φ : Tag → Nat
  H : Tag → Option AObj
  T : Tag → Prop
  w : World

def AObj.ro : AObj → Bool
  | .row r => r.ro
  | .map _ => false
def Live (c : Ctx) (k : Tag) : Prop := ∃ o, c.H k = some o ∧ o.ro = false

inductive VR (c : Ctx) : AV → Value → Prop
  | data (x v) (h : PR c.S c.w x v) : VR c x v
  | agg (cs : List AV) (vs : Array Value) (hl : vs.size = cs.length) (h : ∀ (j : Nat) (x : AV) (u : Value), cs[j]? = some x → vs[j]? = some u → VR c x u) (h1 : ∀ (j : Nat) (u : Value), vs[j]? = some u → u.oneCell' = true) : VR c (.agg cs) (.agg vs)
  | tup (cs : List AV) (vs : Array Value) (hl : vs.size = cs.length) (h : ∀ (j : Nat) (x : AV) (u : Value), cs[j]? = some x → vs[j]? = some u → VR c x u) : VR c (.tup cs) (.tuple vs)
  | fn (f : Fn) (fs cs : List AV) (us vs : Array Value) (hl : us.size = fs.length) (hl' : vs.size = cs.length) (h : ∀ (j : Nat) (x : AV) (u : Value), fs[j]? = some x → us[j]? = some u → VR c x u) (h' : ∀ (j : Nat) (x : AV) (u : Value), cs[j]? = some x → vs[j]? = some u → VR c x u) : VR c (.fn f fs cs) (.func f us vs)
  | ref (k g : Tag) (off n : Nat) (A : Option Addr) (cap : Nat) (hk : c.T k) (hg : c.T g) (hn : n ≤ cap) (hA : off = 0 ∨ 0 < n → ∃ a, A = some a)
      (h : ∀ r, c.H k = some (.row r) → r.gen = g → (off = 0 ∨ 0 < n → A = some ⟨c.φ k, off, none⟩) ∧ (off = 0 → ∀ cells e m, c.w.heap[c.φ k]? = some (.cells cells e m) → cap * r.sz ≤ cells.size)) : VR c (.ref k g off n) (.slice A n cap)
  | ptr (k g : Tag) (off : Nat) (a : Addr) (hk : c.T k) (hg : c.T g)
      (h : ∀ r, c.H k = some (.row r) → r.gen = g → a = ⟨c.φ k, off, none⟩) : VR c (.ptr k g off) (.pointer (some a))
  | mp (k : Tag) (v : Value) (hk : c.T k) (h1 : v.oneCell' = true) (h : ∀ es, c.H k = some (.map es) → v = .map (some (c.φ k))) : VR c (.mp k) v

/-- From c to c': what was related stays related. -/
structure Mono (c c' : Ctx) : Prop where
  S : ∀ b, c.S b → c'.S b
  blk : ∀ b, c.S b → c'.w.heap[b]? = c.w.heap[b]?
  T : ∀ t, c.T t → c'.T t
  row : ∀ k r', c'.H k = some (.row r') → (∃ r, c.H k = some (.row r) ∧ r.gen = r'.gen ∧ r.sz = r'.sz ∧ c'.φ k = c.φ k ∧ (∀ cells' e m, c'.w.heap[c'.φ k]? = some (.cells cells' e m) → ∃ cells e0 m0, c.w.heap[c.φ k]? = some (.cells cells e0 m0) ∧ cells.size ≤ cells'.size)) ∨ ¬ c.T r'.gen
  map : ∀ k es', c'.H k = some (.map es') → (∃ es, c.H k = some (.map es) ∧ c'.φ k = c.φ k) ∨ ¬ c.T k

theorem Mono.refl (c : Ctx) : Mono c c := ⟨fun _ h => h, fun _ _ => rfl, fun _ h => h, fun _ r h => .inl ⟨r, h, rfl, rfl, rfl, fun cells e m hc => ⟨cells, e, m, hc, Nat.le_refl _⟩⟩, fun _ es h => .inl ⟨es, h, rfl⟩⟩
theorem Mono.trans {a b c : Ctx} (h : Mono a b) (k : Mono b c) : Mono a c where
  S := fun x hx => k.S x (h.S x hx)
  blk := fun x hx => (k.blk x (h.S x hx)).trans (h.blk x hx)
  T := fun t ht => k.T t (h.T t ht)
  row := fun t r'' hr'' => by
    rcases k.row t r'' hr'' with ⟨r', hr', e1, e2, e3, hs⟩ | hn
    · rcases h.row t r' hr' with ⟨r, hr, f1, f2, f3, hs'⟩ | hn
      · refine .inl ⟨r, hr, f1.trans e1, f2.trans e2, e3.trans f3, fun cells e m hc => ?_⟩
        obtain ⟨c1, e1', m1, hc1, hl1⟩ := hs cells e m hc
        obtain ⟨c2, e2', m2, hc2, hl2⟩ := hs' c1 e1' m1 hc1
        exact ⟨c2, e2', m2, hc2, Nat.le_trans hl2 hl1⟩
      · exact .inr (by rw [← e1]; exact hn)
    · exact .inr fun ht => hn (h.T _ ht)
  map := fun t es'' hes => by
    rcases k.map t es'' hes with ⟨es', h', e⟩ | hn
    · rcases h.map t es' h' with ⟨es, h0, e0⟩ | hn
      · exact .inl ⟨es, h0, e.trans e0⟩
      · exact .inr hn
    · exact .inr fun ht => hn (h.T _ ht)

theorem VR.mono {c c' : Ctx} (m : Mono c c') {x : AV} {v : Value} (h : VR c x v) : VR c' x v := by
  induction h with
  | data x v h => exact .data x v (h.mono m.S m.blk)
  | agg cs vs hl _ h1 ih => exact .agg cs vs hl ih h1
  | tup cs vs hl _ ih => exact .tup cs vs hl ih
  | fn f fs cs us vs hl hl' _ _ ih ih' => exact .fn f fs cs us vs hl hl' ih ih'
  | ref k g off n A cap hk hg hn hA h =>
    refine .ref k g off n A cap (m.T _ hk) (m.T _ hg) hn hA fun r' hr' hgen => ?_
    rcases m.row k r' hr' with ⟨r, hr, e1, e2, e3, hs⟩ | hn
    · obtain ⟨hA', hsz⟩ := h r hr (e1.trans hgen)
      refine ⟨by rw [e3]; exact hA', fun h0 cells e mk hc => ?_⟩
      obtain ⟨c1, e', m', hc1, hl⟩ := hs cells e mk hc
      have := hsz h0 c1 e' m' hc1
      rw [e2] at this
      omega
    · exact absurd (hgen ▸ hg) hn
  | ptr k g off a hk hg h =>
    refine .ptr k g off a (m.T _ hk) (m.T _ hg) fun r' hr' hgen => ?_
    rcases m.row k r' hr' with ⟨r, hr, e1, e2, e3, hs⟩ | hn
    · rw [e3]
      exact h r hr (e1.trans hgen)
    · exact absurd (hgen ▸ hg) hn
  | mp k v hk h1 h =>
    refine .mp k v (m.T _ hk) h1 fun es' hes => ?_
    rcases m.map k es' hes with ⟨es, h0, e⟩ | hn
    · rw [e]
      exact h es h0
    · exact absurd hk hn

/-- Variables that lie as they were laid: their blocks, their cells. -/
def glList : List (Nat × List Value) := [(1, Lib.pow10Tab.map fun z => Value.int .u64 z)]
def Gl (S : Nat → Prop) (w : World) : Prop := ∀ x ∈ glList, S x.1 ∧ ∃ t m, w.heap[x.1]? = some (.cells x.2.toArray t m)
theorem Gl.mono {S S' : Nat → Prop} {w w' : World} (hS : ∀ b, S b → S' b) (hw : ∀ b, S b → w'.heap[b]? = w.heap[b]?) (h : Gl S w) : Gl S' w' := fun x hx => ⟨hS _ (h x hx).1, by rw [hw _ (h x hx).1]; exact (h x hx).2⟩
structure Inv (c : Ctx) : Prop where
  imm : ∀ b, c.S b → b < c.w.heap.size
  row : ∀ k r, c.H k = some (.row r) → c.T k ∧ c.T r.gen ∧ (r.ro = true → c.S (c.φ k)) ∧ (r.ro = false → ¬ c.S (c.φ k)) ∧
    ∃ cells m, c.w.heap[c.φ k]? = some (.cells cells r.elem m) ∧ (r.plain = true → m = (0, 0)) ∧ (m.2 = 0 ∨ r.cs.length ≤ m.1) ∧ r.cs.length ≤ cells.size ∧ ∀ (j : Nat) (x : AV), r.cs[j]? = some x → ∃ u : Value, cells[j]? = some u ∧ u.oneCell' = true ∧ VR c x u
  map : ∀ k es, c.H k = some (.map es) → c.T k ∧ ¬ c.S (c.φ k) ∧
    ∃ entries clock, c.w.heap[c.φ k]? = some (.map entries clock) ∧ entries.size = es.length ∧ ∀ (j : Nat) (x : AV × AV) (e : MapEntry), es[j]? = some x → entries[j]? = some e → VR c x.1 e.key ∧ VR c x.2 e.val
  inj : ∀ k k', Live c k → Live c k' → c.φ k = c.φ k' → k = k'
  gl : Gl c.S c.w

theorem Inv.lt {c : Ctx} (h : Inv c) {k : Tag} {o : AObj} (ho : c.H k = some o) : c.φ k < c.w.heap.size := by
  cases o with
  | row r => obtain ⟨_, _, _, _, cells, m, hc, _⟩ := h.row k r ho; exact (Array.getElem?_eq_some_iff.1 hc).1
  | map es => obtain ⟨_, _, en, cl, hc, _⟩ := h.map k es ho; exact (Array.getElem?_eq_some_iff.1 hc).1
theorem Inv.tag {c : Ctx} (h : Inv c) {k : Tag} {o : AObj} (ho : c.H k = some o) : c.T k := by
  cases o with
  | row r => exact (h.row k r ho).1
  | map es => exact (h.map k es ho).1
theorem Inv.live_not {c : Ctx} (h : Inv c) {k : Tag} (hl : Live c k) : ¬ c.S (c.φ k) := by
  obtain ⟨o, ho, hr⟩ := hl
  cases o with
  | row r => exact (h.row k r ho).2.2.2.1 hr
  | map es => exact (h.map k es ho).2.1

/-- A stretch of the run: what lies outside of the live things stays. -/
structure Step (c c' : Ctx) : Prop where
  os : c'.w.os = c.w.os
  tape : c'.w.tape = c.w.tape
  output : c'.w.output = c.w.output
  size : c.w.heap.size ≤ c'.w.heap.size
  keep : ∀ b, b < c.w.heap.size → (∀ k, Live c k → c.φ k ≠ b) → c'.w.heap[b]? = c.w.heap[b]?
  mono : Mono c c'
  Snew : ∀ b, c'.S b → c.S b ∨ c.w.heap.size ≤ b ∨ ∃ k, Live c k ∧ c.φ k = b
  img : ∀ k, Live c' k → c.w.heap.size ≤ c'.φ k ∨ ∃ k', Live c k' ∧ c.φ k' = c'.φ k

theorem Step.refl (c : Ctx) : Step c c := ⟨rfl, rfl, rfl, Nat.le_refl _, fun _ _ _ => rfl, Mono.refl c, fun _ h => .inl h, fun k h => .inr ⟨k, h, rfl⟩⟩
theorem Step.trans {a b c : Ctx} (h : Step a b) (k : Step b c) : Step a c where
  os := k.os.trans h.os
  tape := k.tape.trans h.tape
  output := k.output.trans h.output
  size := Nat.le_trans h.size k.size
  keep := fun x hx hl => by
    rw [k.keep x (by have := h.size; omega) (fun t ht => ?_), h.keep x hx hl]
    rcases h.img t ht with h1 | ⟨t', ht', e⟩
    · omega
    · rw [← e]; exact hl t' ht'
  mono := h.mono.trans k.mono
  Snew := fun x hx => by
    rcases k.Snew x hx with h1 | h1 | ⟨t, ht, e⟩
    · exact h.Snew x h1
    · exact .inr (.inl (Nat.le_trans h.size h1))
    · rcases h.img t ht with h1 | ⟨t', ht', e'⟩
      · exact .inr (.inl (by omega))
      · exact .inr (.inr ⟨t', ht', e'.trans e⟩)
  img := fun t ht => by
    rcases k.img t ht with h1 | ⟨t', ht', e⟩
    · exact .inl (Nat.le_trans h.size h1)
    · rcases h.img t' ht' with h1 | ⟨t'', ht'', e'⟩
      · exact .inl (by omega)
      · exact .inr ⟨t'', ht'', e'.trans e⟩

/-! ### the moves -/
/-- A draw, or anything that leaves the heap alone. -/
def Ctx.world (c : Ctx) (w : World) : Ctx := { c with w := w }
theorem step_world {c : Ctx} {w : World} (h : Inv c) (hh : w.heap = c.w.heap) (ho : w.os = c.w.os) (ht : w.tape = c.w.tape) (hu : w.output = c.w.output) : Inv (c.world w) ∧ Step c (c.world w) := by
  have m : Mono c (c.world w) := ⟨fun _ h => h, fun _ _ => by show w.heap[_]? = _; rw [hh], fun _ h => h, fun _ r h => .inl ⟨r, h, rfl, rfl, rfl, fun cells e m hc => ⟨cells, e, m, by rw [← hh]; exact hc, Nat.le_refl _⟩⟩, fun _ es h => .inl ⟨es, h, rfl⟩⟩
  refine ⟨⟨fun b hb => by show b < w.heap.size; rw [hh]; exact h.imm b hb, fun k r hr => ?_, fun k es hes => ?_, h.inj, h.gl.mono m.S m.blk⟩, ⟨ho, ht, hu, by show _ ≤ w.heap.size; rw [hh]; exact Nat.le_refl _, fun b _ _ => by show w.heap[b]? = _; rw [hh], m, fun _ h => .inl h, fun k h => .inr ⟨k, h, rfl⟩⟩⟩
  · obtain ⟨h1, h2, h3, h4, cells, mk, hc, hp, hm, hl, hx⟩ := h.row k r hr
    refine ⟨h1, h2, h3, h4, cells, mk, by show w.heap[_]? = _; rw [hh]; exact hc, hp, hm, hl, fun j x hj => ?_⟩
    obtain ⟨u, hu1, hu2, hu3⟩ := hx j x hj
    exact ⟨u, hu1, hu2, hu3.mono m⟩
  · obtain ⟨h1, h2, en, cl, hc, hl, hx⟩ := h.map k es hes
    refine ⟨h1, h2, en, cl, by show w.heap[_]? = _; rw [hh]; exact hc, hl, fun j x e hj he => ?_⟩
    obtain ⟨a, b⟩ := hx j x e hj he
    exact ⟨a.mono m, b.mono m⟩

/-- A new block. -/
def Ctx.new (c : Ctx) (t : Tag) (x : AObj) (o : Obj) : Ctx :=
  { S := c.S, φ := fun u => if u = t then c.w.heap.size else c.φ u, H := upd c.H t x, T := fun u => c.T u ∨ u = t, w := c.w.alloc o }
theorem alloc_get_old (w : World) (o : Obj) (b : Nat) (h : b < w.heap.size) : (w.alloc o).heap[b]? = w.heap[b]? := RowKit.Below.heap_alloc w o b h
theorem alloc_get_new (w : World) (o : Obj) : (w.alloc o).heap[w.heap.size]? = some o := by
  show (w.heap.push o)[w.heap.size]? = _
  simp
theorem alloc_size (w : World) (o : Obj) : (w.alloc o).heap.size = w.heap.size + 1 := by
  show (w.heap.push o).size = _
  simp

theorem mono_new {c : Ctx} (h : Inv c) (t : Tag) (ht : ¬ c.T t) (x : AObj) (o : Obj) (hg : ∀ r, x = .row r → r.gen = t) : Mono c (c.new t x o) where
  S := fun _ h => h
  blk := fun b hb => alloc_get_old _ _ _ (h.imm b hb)
  T := fun _ h => .inl h
  row := fun k r' hr' => by
    simp only [Ctx.new] at hr' ⊢
    by_cases e : k = t
    · subst e
      rw [upd_same] at hr'
      injection hr' with hr'
      exact .inr (by rw [hg r' hr']; exact ht)
    · rw [upd_ne _ _ _ _ e] at hr'
      refine .inl ⟨r', hr', rfl, rfl, if_neg e, fun cells' e' m hc => ⟨cells', e', m, ?_, Nat.le_refl _⟩⟩
      rw [if_neg e, alloc_get_old _ _ _ (h.lt hr')] at hc
      exact hc
  map := fun k es' hes => by
    simp only [Ctx.new] at hes ⊢
    by_cases e : k = t
    · exact .inr (e ▸ ht)
    · rw [upd_ne _ _ _ _ e] at hes
      exact .inl ⟨es', hes, if_neg e⟩

theorem live_new {c : Ctx} {t : Tag} {x : AObj} {o : Obj} {k : Tag} (hl : Live (c.new t x o) k) (e : k ≠ t) : Live c k := by
  obtain ⟨y, hy, hr⟩ := hl
  simp only [Ctx.new, upd_ne _ _ _ _ e] at hy
  exact ⟨y, hy, hr⟩

theorem step_new {c : Ctx} (h : Inv c) (t : Tag) (ht : ¬ c.T t) (x : AObj) (o : Obj) (hg : ∀ r, x = .row r → r.gen = t) : Step c (c.new t x o) where
  os := rfl
  tape := rfl
  output := rfl
  size := by show _ ≤ (c.w.alloc o).heap.size; rw [alloc_size]; omega
  keep := fun b hb _ => alloc_get_old _ _ _ hb
  mono := mono_new h t ht x o hg
  Snew := fun _ h => .inl h
  img := fun k hl => by
    by_cases e : k = t
    · exact .inl (by simp [Ctx.new, e])
    · exact .inr ⟨k, live_new hl e, by simp [Ctx.new, e]⟩

theorem inv_new {c : Ctx} (h : Inv c) (t : Tag) (ht : ¬ c.T t) (x : AObj) (o : Obj) (hg : ∀ r, x = .row r → r.gen = t ∧ r.ro = false)
    (hx : match x with
      | .row r => ∃ cells m, o = .cells cells r.elem m ∧ (r.plain = true → m = (0, 0)) ∧ (m.2 = 0 ∨ r.cs.length ≤ m.1) ∧ r.cs.length ≤ cells.size ∧ ∀ (j : Nat) (y : AV), r.cs[j]? = some y → ∃ u : Value, cells[j]? = some u ∧ u.oneCell' = true ∧ VR c y u
      | .map es => o = .map #[] 0 ∧ es = []) : Inv (c.new t x o) := by
  have m := mono_new h t ht x o (fun r hr => (hg r hr).1)
  have hS : ¬ c.S c.w.heap.size := fun hs => by have := h.imm _ hs; omega
  refine ⟨fun b hb => ?_, fun k r hr => ?_, fun k es hes => ?_, fun k k' hl hl' e => ?_, h.gl.mono m.S m.blk⟩
  · show b < (c.w.alloc o).heap.size
    rw [alloc_size]
    have := h.imm b hb
    omega
  · simp only [Ctx.new] at hr ⊢
    by_cases e : k = t
    · subst e
      rw [upd_same] at hr
      injection hr with hr
      subst hr
      obtain ⟨cells, mk, rfl, hp, hm, hl, hc⟩ := hx
      obtain ⟨hg1, hg2⟩ := hg r rfl
      rw [if_pos rfl]
      refine ⟨.inr rfl, .inr hg1, fun hro => (by rw [hg2] at hro; cases hro), fun _ => hS, cells, mk, alloc_get_new _ _, hp, hm, hl, fun j y hj => ?_⟩
      obtain ⟨u, h1, h2, h3⟩ := hc j y hj
      exact ⟨u, h1, h2, h3.mono m⟩
    · rw [upd_ne _ _ _ _ e] at hr
      obtain ⟨h1, h2, h3, h4, cells, mk, hc, hp, hm, hl, hcs⟩ := h.row k r hr
      rw [if_neg e]
      refine ⟨.inl h1, .inl h2, h3, h4, cells, mk, by rw [alloc_get_old _ _ _ (h.lt hr)]; exact hc, hp, hm, hl, fun j y hj => ?_⟩
      obtain ⟨u, h1, h2, h3⟩ := hcs j y hj
      exact ⟨u, h1, h2, h3.mono m⟩
  · simp only [Ctx.new] at hes ⊢
    by_cases e : k = t
    · subst e
      rw [upd_same] at hes
      injection hes with hes
      subst hes
      obtain ⟨rfl, rfl⟩ := hx
      rw [if_pos rfl]
      exact ⟨.inr rfl, hS, #[], 0, alloc_get_new _ _, rfl, fun j y e hj => by simp at hj⟩
    · rw [upd_ne _ _ _ _ e] at hes
      obtain ⟨h1, h2, en, cl, hc, hl, hcs⟩ := h.map k es hes
      rw [if_neg e]
      refine ⟨.inl h1, h2, en, cl, by rw [alloc_get_old _ _ _ (h.lt hes)]; exact hc, hl, fun j y z hj hz => ?_⟩
      obtain ⟨a, b⟩ := hcs j y z hj hz
      exact ⟨a.mono m, b.mono m⟩
  · by_cases e1 : k = t <;> by_cases e2 : k' = t
    · rw [e1, e2]
    · have hk' := live_new hl' e2
      simp only [Ctx.new, e1, e2, if_true, if_false] at e
      obtain ⟨y, hy, _⟩ := hk'
      have := h.lt hy
      omega
    · have hk := live_new hl e1
      simp only [Ctx.new, e1, e2, if_true, if_false] at e
      obtain ⟨y, hy, _⟩ := hk
      have := h.lt hy
      omega
    · simp only [Ctx.new, e1, e2, if_false] at e
      exact h.inj k k' (live_new hl e1) (live_new hl' e2) e

end Go.Proofs.YtpmjpogcaglphaaDoor.A
/- A, part 5: the moves that write: a row's cells, a row that moves, a map; and rows that are shut. -/
namespace Go.Proofs.YtpmjpogcaglphaaDoor.A
open Go

structure Wr (w w' : World) (g : Nat) (o : Obj) : Prop where
  os : w'.os = w.os
  tape : w'.tape = w.tape
  output : w'.output = w.output
  size : w'.heap.size = w.heap.size
  at_ : w'.heap[g]? = some o
  else_ : ∀ b, b ≠ g → w'.heap[b]? = w.heap[b]?

theorem other_ne {c : Ctx} (h : Inv c) {k k' : Tag} (hl : Live c k) {o : AObj} (ho : c.H k' = some o) (e : k' ≠ k) : c.φ k' ≠ c.φ k := by
  intro he
  by_cases hr : o.ro = false
  · exact e (h.inj k' k ⟨o, ho, hr⟩ hl he)
  · have hro : o.ro = true := by simpa using hr
    cases o with
    | row r => exact h.live_not hl (he ▸ (h.row k' r ho).2.2.1 hro)
    | map es => cases hro

def Ctx.put (c : Ctx) (k : Tag) (x : AObj) (g : Tag) (w : World) : Ctx := { c with H := upd c.H k x, T := fun u => c.T u ∨ u = g, w := w }

theorem live_put {c : Ctx} {k : Tag} {x : AObj} {g : Tag} {w : World} {t : Tag} (hk : Live c k) (hl : Live (c.put k x g w) t) : Live c t := by
  by_cases e : t = k
  · exact e ▸ hk
  · obtain ⟨y, hy, hr⟩ := hl
    simp only [Ctx.put, upd_ne _ _ _ _ e] at hy
    exact ⟨y, hy, hr⟩

section
variable {c : Ctx} {k g : Tag} {w : World} {o : Obj}
theorem step_put (h : Inv c) (hk : Live c k) (x : AObj) (hw : Wr c.w w (c.φ k) o) (m : Mono c (c.put k x g w)) : Step c (c.put k x g w) where
  os := hw.os
  tape := hw.tape
  output := hw.output
  size := by show _ ≤ w.heap.size; rw [hw.size]; exact Nat.le_refl _
  keep := fun b _ hl => hw.else_ b (fun e => hl k hk e.symm)
  mono := m
  Snew := fun _ h => .inl h
  img := fun t ht => .inr ⟨t, live_put hk ht, rfl⟩

theorem mono_row (h : Inv c) {r : Row} (hr : c.H k = some (.row r)) (hro : r.ro = false) (cs : List AV) (hg : g = r.gen ∨ ¬ c.T g) {cells cells' : Array Value} {mk : Nat × Nat} (hc : c.w.heap[c.φ k]? = some (.cells cells r.elem mk))
    (hs : cells'.size = cells.size) (hw : Wr c.w w (c.φ k) (.cells cells' r.elem mk)) : Mono c (c.put k (.row { r with gen := g, cs := cs }) g w) := by
  have hk : Live c k := ⟨_, hr, hro⟩
  refine ⟨fun _ h => h, fun b hb => hw.else_ b (fun e => h.live_not hk (e ▸ hb)), fun _ h => .inl h, fun t r' hr' => ?_, fun t es' hes => ?_⟩
  · simp only [Ctx.put] at hr' ⊢
    by_cases e : t = k
    · subst e
      rw [upd_same] at hr'
      injection hr' with hr'
      injection hr' with hr'
      subst hr'
      rcases hg with hg | hg
      · refine .inl ⟨r, hr, hg.symm, rfl, trivial, fun cl e' m' hcl => ?_⟩
        rw [hw.at_] at hcl
        injection hcl with hcl
        injection hcl with hcl
        exact ⟨cells, _, _, hc, by rw [← hcl, hs]; exact Nat.le_refl _⟩
      · exact .inr hg
    · rw [upd_ne _ _ _ _ e] at hr'
      refine .inl ⟨r', hr', rfl, rfl, trivial, fun cl e' m' hcl => ⟨cl, e', m', ?_, Nat.le_refl _⟩⟩
      rw [hw.else_ _ (other_ne h hk hr' e)] at hcl
      exact hcl
  · simp only [Ctx.put] at hes ⊢
    by_cases e : t = k
    · subst e
      rw [upd_same] at hes
      injection hes with hes
      cases hes
    · rw [upd_ne _ _ _ _ e] at hes
      exact .inl ⟨es', hes, trivial⟩

/-- A row's cells are written, its length may turn. -/
theorem put_row (h : Inv c) {r : Row} (hr : c.H k = some (.row r)) (hro : r.ro = false) (cs : List AV) (hg : g = r.gen ∨ ¬ c.T g) {cells cells' : Array Value} {mk : Nat × Nat} (hc : c.w.heap[c.φ k]? = some (.cells cells r.elem mk))
    (hs : cells'.size = cells.size) (hw : Wr c.w w (c.φ k) (.cells cells' r.elem mk)) (hl : cs.length ≤ cells.size) (hp : r.plain = true → mk = (0, 0)) (hm : mk.2 = 0 ∨ cs.length ≤ mk.1)
    (hx : ∀ (j : Nat) (x : AV), cs[j]? = some x → ∃ u : Value, cells'[j]? = some u ∧ u.oneCell' = true ∧ VR c x u) :
    Inv (c.put k (.row { r with gen := g, cs := cs }) g w) ∧ Step c (c.put k (.row { r with gen := g, cs := cs }) g w) := by
  have hk : Live c k := ⟨_, hr, hro⟩
  have m := mono_row (w := w) h hr hro cs hg hc hs hw
  have rel : ∀ {cs' : List AV} {cl : Array Value}, (∀ (j : Nat) (x : AV), cs'[j]? = some x → ∃ u : Value, cl[j]? = some u ∧ u.oneCell' = true ∧ VR c x u) → ∀ (j : Nat) (x : AV), cs'[j]? = some x → ∃ u : Value, cl[j]? = some u ∧ u.oneCell' = true ∧ VR (c.put k (.row { r with gen := g, cs := cs }) g w) x u :=
    fun hh j x hj => by
      obtain ⟨u, h1, h2, h3⟩ := hh j x hj
      exact ⟨u, h1, h2, h3.mono m⟩
  refine ⟨⟨fun b hb => ?_, fun t r' hr' => ?_, fun t es hes => ?_, fun t t' ht ht' e => h.inj t t' (live_put hk ht) (live_put hk ht') e, h.gl.mono m.S m.blk⟩, step_put h hk _ hw m⟩
  · show b < w.heap.size
    rw [hw.size]
    exact h.imm b hb
  · by_cases e : t = k
    · subst e
      have hr2 : (AObj.row { r with gen := g, cs := cs }) = .row r' := by
        have hr3 := hr'
        simp only [Ctx.put] at hr3
        rw [upd_same] at hr3
        injection hr3
      injection hr2 with hr2
      subst hr2
      obtain ⟨h1, h2, h3, h4, _⟩ := h.row t r hr
      refine ⟨.inl h1, .inr rfl, h3, h4, cells', mk, hw.at_, hp, hm, by rw [hs]; exact hl, rel hx⟩
    · have hr2 : c.H t = some (.row r') := by
        have hr3 := hr'
        simp only [Ctx.put] at hr3
        rw [upd_ne _ _ _ _ e] at hr3
        exact hr3
      obtain ⟨h1, h2, h3, h4, cl, mk', hcl, hp', hm', hl', hx'⟩ := h.row t r' hr2
      refine ⟨.inl h1, .inl h2, h3, h4, cl, mk', ?_, hp', hm', hl', rel hx'⟩
      show w.heap[c.φ t]? = _
      rw [hw.else_ _ (other_ne h hk hr2 e)]
      exact hcl
  · have e : t ≠ k := by
      rintro rfl
      simp only [Ctx.put] at hes
      rw [upd_same] at hes
      injection hes with hes
      cases hes
    have hes2 : c.H t = some (.map es) := by
      have hr3 := hes
      simp only [Ctx.put] at hr3
      rw [upd_ne _ _ _ _ e] at hr3
      exact hr3
    obtain ⟨h1, h2, en, cl, hc', hl', hx'⟩ := h.map t es hes2
    refine ⟨.inl h1, h2, en, cl, ?_, hl', fun j y z hj hz => ?_⟩
    · show w.heap[c.φ t]? = _
      rw [hw.else_ _ (other_ne h hk hes2 e)]
      exact hc'
    · obtain ⟨a, b⟩ := hx' j y z hj hz
      exact ⟨a.mono m, b.mono m⟩

/-- A map's entries are written. -/
theorem put_map (h : Inv c) {es es' : List (AV × AV)} (hr : c.H k = some (.map es)) {en : Array MapEntry} {cl : Nat} (hw : Wr c.w w (c.φ k) (.map en cl)) (hl : en.size = es'.length)
    (hx : ∀ (j : Nat) (x : AV × AV) (e : MapEntry), es'[j]? = some x → en[j]? = some e → VR c x.1 e.key ∧ VR c x.2 e.val) :
    Inv (c.put k (.map es') k w) ∧ Step c (c.put k (.map es') k w) := by
  have hk : Live c k := ⟨_, hr, rfl⟩
  have m : Mono c (c.put k (.map es') k w) := by
    refine ⟨fun _ h => h, fun b hb => hw.else_ b (fun e => h.live_not hk (e ▸ hb)), fun _ h => .inl h, fun t r' hr' => ?_, fun t es2 hes => ?_⟩
    · simp only [Ctx.put] at hr' ⊢
      by_cases e : t = k
      · subst e
        rw [upd_same] at hr'
        injection hr' with hr'
        cases hr'
      · rw [upd_ne _ _ _ _ e] at hr'
        refine .inl ⟨r', hr', rfl, rfl, trivial, fun cl e' m' hcl => ⟨cl, e', m', ?_, Nat.le_refl _⟩⟩
        rw [hw.else_ _ (other_ne h hk hr' e)] at hcl
        exact hcl
    · simp only [Ctx.put] at hes ⊢
      by_cases e : t = k
      · exact .inl ⟨es, e ▸ hr, trivial⟩
      · rw [upd_ne _ _ _ _ e] at hes
        exact .inl ⟨es2, hes, trivial⟩
  refine ⟨⟨fun b hb => ?_, fun t r' hr' => ?_, fun t es2 hes => ?_, fun t t' ht ht' e => h.inj t t' (live_put hk ht) (live_put hk ht') e, h.gl.mono m.S m.blk⟩, step_put h hk _ hw m⟩
  · show b < w.heap.size
    rw [hw.size]
    exact h.imm b hb
  · have e : t ≠ k := by
      rintro rfl
      simp only [Ctx.put] at hr'
      rw [upd_same] at hr'
      injection hr' with hr'
      cases hr'
    have hr2 : c.H t = some (.row r') := by
      have hr3 := hr'
      simp only [Ctx.put] at hr3
      rw [upd_ne _ _ _ _ e] at hr3
      exact hr3
    obtain ⟨h1, h2, h3, h4, cells, mk', hc, hp', hm', hl', hx'⟩ := h.row t r' hr2
    refine ⟨.inl h1, .inl h2, h3, h4, cells, mk', ?_, hp', hm', hl', fun j x hj => ?_⟩
    · show w.heap[c.φ t]? = _
      rw [hw.else_ _ (other_ne h hk hr2 e)]
      exact hc
    · obtain ⟨u, h1, h2, h3⟩ := hx' j x hj
      exact ⟨u, h1, h2, h3.mono m⟩
  · by_cases e : t = k
    · subst e
      have hr2 : es' = es2 := by
        have hr3 := hes
        simp only [Ctx.put] at hr3
        rw [upd_same] at hr3
        injection hr3 with hr3
        injection hr3
      subst hr2
      obtain ⟨h1, h2, _⟩ := h.map t es hr
      refine ⟨.inl h1, h2, en, cl, hw.at_, hl, fun j y z hj hz => ?_⟩
      obtain ⟨a, b⟩ := hx j y z hj hz
      exact ⟨a.mono m, b.mono m⟩
    · have hes2 : c.H t = some (.map es2) := by
        have hr3 := hes
        simp only [Ctx.put] at hr3
        rw [upd_ne _ _ _ _ e] at hr3
        exact hr3
      obtain ⟨h1, h2, en', cl', hc', hl', hx'⟩ := h.map t es2 hes2
      refine ⟨.inl h1, h2, en', cl', ?_, hl', fun j y z hj hz => ?_⟩
      · show w.heap[c.φ t]? = _
        rw [hw.else_ _ (other_ne h hk hes2 e)]
        exact hc'
      · obtain ⟨a, b⟩ := hx' j y z hj hz
        exact ⟨a.mono m, b.mono m⟩
end

/-- A row moves to a new block. -/
def Ctx.moved (c : Ctx) (k : Tag) (r : Row) (g : Tag) (o : Obj) : Ctx :=
  { S := c.S, φ := fun u => if u = k then c.w.heap.size else c.φ u, H := upd c.H k (.row r), T := fun u => c.T u ∨ u = g, w := c.w.alloc o }
theorem move_row {c : Ctx} (h : Inv c) {k : Tag} {r : Row} (hr : c.H k = some (.row r)) (hro : r.ro = false) (r' : Row) (hg : ¬ c.T r'.gen) (hro' : r'.ro = false) (cells : Array Value)
    (hl : r'.cs.length ≤ cells.size) (hx : ∀ (j : Nat) (x : AV), r'.cs[j]? = some x → ∃ u : Value, cells[j]? = some u ∧ u.oneCell' = true ∧ VR c x u) :
    Inv (c.moved k r' r'.gen (.cells cells r'.elem (0, 0))) ∧ Step c (c.moved k r' r'.gen (.cells cells r'.elem (0, 0))) := by
  have hk : Live c k := ⟨_, hr, hro⟩
  have hS : ¬ c.S c.w.heap.size := fun hs => by have := h.imm _ hs; omega
  have hlive : ∀ t, Live (c.moved k r' r'.gen (.cells cells r'.elem (0, 0))) t → Live c t := fun t ht => by
    by_cases e : t = k
    · exact e ▸ hk
    · obtain ⟨y, hy, hr⟩ := ht
      simp only [Ctx.moved, upd_ne _ _ _ _ e] at hy
      exact ⟨y, hy, hr⟩
  have m : Mono c (c.moved k r' r'.gen (.cells cells r'.elem (0, 0))) := by
    refine ⟨fun _ h => h, fun b hb => alloc_get_old _ _ _ (h.imm b hb), fun _ h => .inl h, fun t r2 hr2 => ?_, fun t es hes => ?_⟩
    · simp only [Ctx.moved] at hr2 ⊢
      by_cases e : t = k
      · subst e
        rw [upd_same] at hr2
        injection hr2 with hr2
        injection hr2 with hr2
        subst hr2
        exact .inr hg
      · rw [upd_ne _ _ _ _ e] at hr2
        refine .inl ⟨r2, hr2, rfl, rfl, if_neg e, fun cells' e' m hc => ⟨cells', e', m, ?_, Nat.le_refl _⟩⟩
        rw [if_neg e, alloc_get_old _ _ _ (h.lt hr2)] at hc
        exact hc
    · simp only [Ctx.moved] at hes ⊢
      by_cases e : t = k
      · subst e
        rw [upd_same] at hes
        injection hes with hes
        cases hes
      · rw [upd_ne _ _ _ _ e] at hes
        exact .inl ⟨es, hes, if_neg e⟩
  have rel : ∀ {cs' : List AV} {cl : Array Value}, (∀ (j : Nat) (x : AV), cs'[j]? = some x → ∃ u : Value, cl[j]? = some u ∧ u.oneCell' = true ∧ VR c x u) → ∀ (j : Nat) (x : AV), cs'[j]? = some x → ∃ u : Value, cl[j]? = some u ∧ u.oneCell' = true ∧ VR (c.moved k r' r'.gen (.cells cells r'.elem (0, 0))) x u :=
    fun hh j x hj => by
      obtain ⟨u, h1, h2, h3⟩ := hh j x hj
      exact ⟨u, h1, h2, h3.mono m⟩
  refine ⟨⟨fun b hb => ?_, fun t r2 hr2 => ?_, fun t es hes => ?_, fun t t' ht ht' e => ?_, h.gl.mono m.S m.blk⟩, ⟨rfl, rfl, rfl, ?_, fun b hb _ => alloc_get_old _ _ _ hb, m, fun _ h => .inl h, fun t ht => ?_⟩⟩
  · show b < (c.w.alloc _).heap.size
    rw [alloc_size]
    have := h.imm b hb
    omega
  · by_cases e : t = k
    · subst e
      have hr3 : r' = r2 := by
        have hr3 := hr2
        simp only [Ctx.moved] at hr3
        rw [upd_same] at hr3
        injection hr3 with hr3
        injection hr3
      subst hr3
      obtain ⟨h1, _⟩ := h.row t r hr
      refine ⟨.inl h1, .inr rfl, fun hh => (by rw [hro'] at hh; cases hh), fun _ => ?_, cells, (0, 0), ?_, fun _ => rfl, .inl rfl, hl, rel hx⟩
      · show ¬ c.S (if t = t then _ else _)
        rw [if_pos rfl]
        exact hS
      · show (c.w.alloc _).heap[if t = t then _ else _]? = _
        rw [if_pos rfl]
        exact alloc_get_new _ _
    · have hr3 : c.H t = some (.row r2) := by
        have hr3 := hr2
        simp only [Ctx.moved] at hr3
        rw [upd_ne _ _ _ _ e] at hr3
        exact hr3
      obtain ⟨h1, h2, h3, h4, cl, mk', hcl, hp', hm', hl', hx'⟩ := h.row t r2 hr3
      have hφ : (c.moved k r' r'.gen (.cells cells r'.elem (0, 0))).φ t = c.φ t := if_neg e
      rw [hφ]
      refine ⟨.inl h1, .inl h2, h3, h4, cl, mk', ?_, hp', hm', hl', rel hx'⟩
      show (c.w.alloc _).heap[c.φ t]? = _
      rw [alloc_get_old _ _ _ (h.lt hr3)]
      exact hcl
  · have e : t ≠ k := by
      rintro rfl
      simp only [Ctx.moved] at hes
      rw [upd_same] at hes
      injection hes with hes
      cases hes
    have hes2 : c.H t = some (.map es) := by
      have hr3 := hes
      simp only [Ctx.moved] at hr3
      rw [upd_ne _ _ _ _ e] at hr3
      exact hr3
    obtain ⟨h1, h2, en, cl, hc', hl', hx'⟩ := h.map t es hes2
    have hφ : (c.moved k r' r'.gen (.cells cells r'.elem (0, 0))).φ t = c.φ t := if_neg e
    rw [hφ]
    refine ⟨.inl h1, h2, en, cl, ?_, hl', fun j y z hj hz => ?_⟩
    · show (c.w.alloc _).heap[c.φ t]? = _
      rw [alloc_get_old _ _ _ (h.lt hes2)]
      exact hc'
    · obtain ⟨a, b⟩ := hx' j y z hj hz
      exact ⟨a.mono m, b.mono m⟩
  · have l1 := hlive t ht
    have l2 := hlive t' ht'
    by_cases e1 : t = k <;> by_cases e2 : t' = k
    · rw [e1, e2]
    · obtain ⟨y, hy, _⟩ := l2
      have := h.lt hy
      simp only [Ctx.moved, e1, e2, if_true, if_false] at e
      omega
    · obtain ⟨y, hy, _⟩ := l1
      have := h.lt hy
      simp only [Ctx.moved, e1, e2, if_true, if_false] at e
      omega
    · simp only [Ctx.moved, e1, e2, if_false] at e
      exact h.inj t t' l1 l2 e
  · show _ ≤ (c.w.alloc _).heap.size
    rw [alloc_size]
    omega
  · by_cases e : t = k
    · exact .inl (by show _ ≤ (if t = k then _ else _); rw [if_pos e]; exact Nat.le_refl _)
    · exact .inr ⟨t, hlive t ht, by show _ = (if t = k then _ else _); rw [if_neg e]⟩

/-- Rows are shut: from now on nobody writes them. -/
def Ctx.shut (c : Ctx) (ts : List Tag) : Ctx := { c with S := fun b => c.S b ∨ ∃ k r, k ∈ ts ∧ c.H k = some (.row r) ∧ c.φ k = b, H := sealed ts c.H }
theorem sealed_row {ts : List Tag} {H : Tag → Option AObj} {k : Tag} {r' : Row} (h : sealed ts H k = some (.row r')) : ∃ r, H k = some (.row r) ∧ ((k ∈ ts ∧ r' = { r with ro := true }) ∨ (k ∉ ts ∧ r' = r)) := by
  unfold sealed at h
  cases ho : H k with
  | none => rw [ho] at h; cases h
  | some x =>
    rw [ho] at h
    cases x with
    | map es => cases h
    | row r =>
      dsimp only at h
      by_cases hk : ts.contains k = true
      · rw [if_pos hk] at h
        injection h with h
        injection h with h
        exact ⟨r, rfl, .inl ⟨by simpa using hk, h.symm⟩⟩
      · rw [if_neg hk] at h
        injection h with h
        injection h with h
        exact ⟨r, rfl, .inr ⟨by simpa using hk, h.symm⟩⟩
theorem sealed_map {ts : List Tag} {H : Tag → Option AObj} {k : Tag} {es : List (AV × AV)} (h : sealed ts H k = some (.map es)) : H k = some (.map es) := by
  unfold sealed at h
  cases ho : H k with
  | none => rw [ho] at h; cases h
  | some x =>
    rw [ho] at h
    cases x with
    | map es' => exact h
    | row r =>
      dsimp only at h
      split at h <;> (injection h with h; cases h)
theorem shut_rows {c : Ctx} (h : Inv c) (ts : List Tag) : Inv (c.shut ts) ∧ Step c (c.shut ts) := by
  have m : Mono c (c.shut ts) := by
    refine ⟨fun _ h => .inl h, fun _ _ => rfl, fun _ h => h, fun k r' hr' => ?_, fun k es hes => .inl ⟨es, sealed_map hes, rfl⟩⟩
    obtain ⟨r, hr, hh⟩ := sealed_row hr'
    refine .inl ⟨r, hr, ?_, ?_, rfl, fun cells e m hc => ⟨cells, e, m, hc, Nat.le_refl _⟩⟩ <;> rcases hh with ⟨_, rfl⟩ | ⟨_, rfl⟩ <;> rfl
  have hlive : ∀ t, Live (c.shut ts) t → Live c t ∧ (∀ r, c.H t = some (.row r) → t ∉ ts) := by
    rintro t ⟨y, hy, hr⟩
    cases y with
    | map es => exact ⟨⟨_, sealed_map hy, rfl⟩, fun r hr' => by rw [sealed_map hy] at hr'; cases hr'⟩
    | row r' =>
      obtain ⟨r, hr0, hh⟩ := sealed_row hy
      rcases hh with ⟨_, rfl⟩ | ⟨hn, rfl⟩
      · cases hr
      · exact ⟨⟨_, hr0, hr⟩, fun _ _ => hn⟩
  refine ⟨⟨?_, fun k r' hr' => ?_, fun k es hes => ?_, fun k k' hk hk' e => h.inj k k' (hlive k hk).1 (hlive k' hk').1 e, h.gl.mono m.S m.blk⟩, ⟨rfl, rfl, rfl, Nat.le_refl _, fun _ _ _ => rfl, m, ?_, fun k hk => .inr ⟨k, (hlive k hk).1, rfl⟩⟩⟩
  · rintro b (hb | ⟨k, r, _, hr, rfl⟩)
    · exact h.imm b hb
    · exact h.lt hr
  · obtain ⟨r, hr, hh⟩ := sealed_row hr'
    obtain ⟨h1, h2, h3, h4, cells, mk, hc, hp, hm, hl, hx⟩ := h.row k r hr
    have hx' : ∀ (j : Nat) (x : AV), r.cs[j]? = some x → ∃ u : Value, cells[j]? = some u ∧ u.oneCell' = true ∧ VR (c.shut ts) x u := fun j x hj => by
      obtain ⟨u, a, b, d⟩ := hx j x hj
      exact ⟨u, a, b, d.mono m⟩
    rcases hh with ⟨hk, rfl⟩ | ⟨hk, rfl⟩
    · exact ⟨h1, h2, fun _ => .inr ⟨k, r, hk, hr, rfl⟩, fun hh => (by cases hh), cells, mk, hc, hp, hm, hl, hx'⟩
    · refine ⟨h1, h2, fun hro => .inl (h3 hro), fun hro => ?_, cells, mk, hc, hp, hm, hl, hx'⟩
      rintro (hb | ⟨k', r'', hk', hr'', e⟩)
      · exact h4 hro hb
      · exact other_ne h ⟨_, hr, hro⟩ hr'' (fun e' => hk (e' ▸ hk')) e
  · obtain ⟨h1, h2, en, cl, hc, hl, hx⟩ := h.map k es (sealed_map hes)
    refine ⟨h1, ?_, en, cl, hc, hl, fun j y z hj hz => ?_⟩
    · rintro (hb | ⟨k', r'', _, hr'', e⟩)
      · exact h2 hb
      · refine other_ne h ⟨_, sealed_map hes, rfl⟩ hr'' (fun e' => ?_) e
        rw [e', sealed_map hes] at hr''
        cases hr''
    · obtain ⟨a, b⟩ := hx j y z hj hz
      exact ⟨a.mono m, b.mono m⟩
  · rintro b (hb | ⟨k, r, _, hr, rfl⟩)
    · exact .inl hb
    · cases hro : r.ro with
      | true => exact .inl ((h.row k r hr).2.2.1 hro)
      | false => exact .inr (.inr ⟨k, ⟨_, hr, hro⟩, rfl⟩)

end Go.Proofs.YtpmjpogcaglphaaDoor.A
/- A, part 6: what single readings and writings do in the machine. -/
namespace Go.Proofs.YtpmjpogcaglphaaDoor.A
open Go

/-! ### reading the relation -/
section
variable {c : Ctx} {v : Value}
theorem VR.int_ {k : IntKind} {n : Int} (h : VR c (.int k n) v) : v = .int k n := by cases h with | data _ _ h => cases h; rfl
theorem VR.bool_ {b : Bool} (h : VR c (.bool b) v) : v = .bool b := by cases h with | data _ _ h => cases h; rfl
theorem VR.str_ {s : List UInt8} (h : VR c (.str s) v) : v = .string ⟨s.toArray⟩ := by cases h with | data _ _ h => cases h; rfl
theorem VR.nil_ (h : VR c .nil v) : v = .slice none 0 0 := by cases h with | data _ _ h => cases h; rfl
theorem VR.nilmp_ (h : VR c .nilmp v) : v = .map none := by cases h with | data _ _ h => cases h; rfl
theorem VR.agg_ {cs : List AV} (h : VR c (.agg cs) v) : ∃ vs : Array Value, v = .agg vs ∧ vs.size = cs.length ∧ (∀ (j : Nat) (x : AV) (u : Value), cs[j]? = some x → vs[j]? = some u → VR c x u) ∧ (∀ (j : Nat) (u : Value), vs[j]? = some u → u.oneCell' = true) := by
  cases h with
  | data _ _ h => cases h with | agg _ vs hl h h1 => exact ⟨vs, rfl, hl, fun j x u a b => .data _ _ (h j x u a b), h1⟩
  | agg _ vs hl h h1 => exact ⟨vs, rfl, hl, h, h1⟩
theorem VR.tup_ {cs : List AV} (h : VR c (.tup cs) v) : ∃ vs : Array Value, v = .tuple vs ∧ vs.size = cs.length ∧ (∀ (j : Nat) (x : AV) (u : Value), cs[j]? = some x → vs[j]? = some u → VR c x u) := by
  cases h with
  | data _ _ h => cases h with | tup _ vs hl h => exact ⟨vs, rfl, hl, fun j x u a b => .data _ _ (h j x u a b)⟩
  | tup _ vs hl h => exact ⟨vs, rfl, hl, h⟩
theorem VR.fn_ {f : Fn} {fs cs : List AV} (h : VR c (.fn f fs cs) v) : ∃ us vs : Array Value, v = .func f us vs ∧ us.size = fs.length ∧ vs.size = cs.length ∧ (∀ (j : Nat) (x : AV) (u : Value), fs[j]? = some x → us[j]? = some u → VR c x u) ∧ (∀ (j : Nat) (x : AV) (u : Value), cs[j]? = some x → vs[j]? = some u → VR c x u) := by
  cases h with
  | data _ _ h => cases h with | fn _ _ _ us vs hl hl' h h' => exact ⟨us, vs, rfl, hl, hl', fun j x u a b => .data _ _ (h j x u a b), fun j x u a b => .data _ _ (h' j x u a b)⟩
  | fn _ _ _ us vs hl hl' h h' => exact ⟨us, vs, rfl, hl, hl', h, h'⟩
theorem VR.sl_ {n : Nat} {cs : List AV} (h : VR c (.sl n cs) v) : ∃ A cap, v = .slice A n cap ∧ n ≤ cap ∧ (0 < n → ∃ a, A = some a) ∧ (cs ≠ [] → ∃ a, A = some a ∧ c.S a.block) ∧ (∀ (a : Addr) (j : Nat) (x : AV), A = some a → cs[j]? = some x → ∃ u : Value, c.w.cell? (a.add j) = some u ∧ u.oneCell' = true ∧ PR c.S c.w x u) := by
  cases h with
  | data _ _ h => cases h with | sl _ _ A cap u hn hA ha hc h1 h => exact ⟨A, cap, rfl, hn, hA, ha, fun a j x hA hx => ⟨u j, hc a j x hA hx, h1 j x hx, h j x hx⟩⟩
theorem VR.fptr_ {cs : List AV} (h : VR c (.fptr cs) v) : ∃ a : Addr, v = .pointer (some a) ∧ (cs ≠ [] → c.S a.block) ∧ (∀ (j : Nat) (x : AV), cs[j]? = some x → ∃ u : Value, c.w.cell? (a.add j) = some u ∧ u.oneCell' = true ∧ PR c.S c.w x u) := by
  cases h with
  | data _ _ h => cases h with | fptr _ a u ha hc h1 h => exact ⟨a, rfl, ha, fun j x hx => ⟨u j, hc j x hx, h1 j x hx, h j x hx⟩⟩
theorem VR.ref_ {k g : Tag} {off n : Nat} (h : VR c (.ref k g off n) v) : c.T k ∧ c.T g ∧ ∃ A cap, v = .slice A n cap ∧ n ≤ cap ∧ (off = 0 ∨ 0 < n → ∃ a, A = some a) ∧ ∀ r, aRow c.H k g = some r → (off = 0 ∨ 0 < n → A = some ⟨c.φ k, off, none⟩) ∧ (off = 0 → ∀ cells e m, c.w.heap[c.φ k]? = some (.cells cells e m) → cap * r.sz ≤ cells.size) := by
  cases h with
  | data _ _ h => cases h
  | ref _ _ _ _ A cap hk hg hn hA h =>
    refine ⟨hk, hg, A, cap, rfl, hn, hA, fun r hr => ?_⟩
    unfold aRow at hr
    split at hr
    · rename_i r' hr'
      split at hr
      · rename_i e
        injection hr with hr
        subst hr
        exact h r' hr' e
      · cases hr
    · cases hr
theorem VR.ptr_ {k g : Tag} {off : Nat} (h : VR c (.ptr k g off) v) : c.T k ∧ c.T g ∧ ∃ a, v = .pointer (some a) ∧ ∀ r, aRow c.H k g = some r → a = ⟨c.φ k, off, none⟩ := by
  cases h with
  | data _ _ h => cases h
  | ptr _ _ _ a hk hg h =>
    refine ⟨hk, hg, a, rfl, fun r hr => ?_⟩
    unfold aRow at hr
    split at hr
    · rename_i r' hr'
      split at hr
      · rename_i e
        exact h r' hr' e
      · cases hr
    · cases hr
theorem VR.mp_ {k : Tag} (h : VR c (.mp k) v) : c.T k ∧ v.oneCell' = true ∧ ∀ es, c.H k = some (.map es) → v = .map (some (c.φ k)) := by
  cases h with
  | data _ _ h => cases h
  | mp _ _ hk h1 h => exact ⟨hk, h1, h⟩
end

theorem aRow_some {H : Tag → Option AObj} {k g : Tag} {r : Row} (h : aRow H k g = some r) : H k = some (.row r) ∧ r.gen = g := by
  unfold aRow at h
  split at h
  · rename_i r' hr'
    split at h
    · rename_i e
      injection h with h
      subst h
      exact ⟨hr', e⟩
    · cases h
  · cases h

theorem VR.noV_ (c : Ctx) : VR c noV undef := .data _ _ (.tup [] #[] rfl (fun j x u h => by simp at h))
theorem VR.int (c : Ctx) (k n) : VR c (.int k n) (.int k n) := .data _ _ (.int k n)
theorem VR.bool (c : Ctx) (b) : VR c (.bool b) (.bool b) := .data _ _ (.bool b)
theorem VR.str (c : Ctx) (s) : VR c (.str s) (.string ⟨s.toArray⟩) := .data _ _ (.str s)

theorem one_cells {u : Value} (h : u.oneCell' = true) : u.cells = #[u] := by cases u <;> first | rfl | (simp [Value.oneCell'] at h)
theorem VR.one {c : Ctx} {x : AV} {v : Value} (h : VR c x v) (hc : cellOk x = true) : v.oneCell' = true := by
  cases h with
  | data _ _ h => cases h <;> first | rfl | (simp [cellOk] at hc)
  | agg => simp [cellOk] at hc
  | tup => simp [cellOk] at hc
  | fn => rfl
  | ref => rfl
  | ptr => rfl
  | mp _ _ _ h1 => exact h1

/-- A value's cells. -/
theorem VR.cells {c : Ctx} {x : AV} {v : Value} (h : VR c x v) (hc : x.cells.all cellOk = true) : v.cells.size = x.cells.length ∧ ∀ (j : Nat) (y : AV) (u : Value), x.cells[j]? = some y → v.cells[j]? = some u → VR c y u ∧ u.oneCell' = true := by
  by_cases ha : ∃ cs, x = .agg cs
  · obtain ⟨cs, rfl⟩ := ha
    obtain ⟨vs, rfl, hl, hh, h1⟩ := h.agg_
    exact ⟨hl, fun j y u hy hu => ⟨hh j y u hy hu, h1 j u hu⟩⟩
  · have e : x.cells = [x] := by cases x <;> first | rfl | exact absurd ⟨_, rfl⟩ ha
    rw [e] at hc ⊢
    have h1 := h.one (by simpa using hc)
    rw [one_cells h1]
    refine ⟨rfl, fun j y u hy hu => ?_⟩
    cases j with
    | zero =>
      simp at hy hu
      subst hy; subst hu
      exact ⟨h, h1⟩
    | succ j => simp at hy

/-! ### constants -/
theorem ofCell_rel {v : Value} {x : AV} (h : ofCell v = some x) (S : Nat → Prop) (w : World) : PR S w x v ∧ v.oneCell' = true ∧ cellOk x = true := by
  unfold ofCell at h
  split at h <;> first | (injection h with h; subst h; first | exact ⟨.bool _, rfl, rfl⟩ | exact ⟨.int _ _, rfl, rfl⟩ | exact ⟨.nil, rfl, rfl⟩ | exact ⟨.nilmp, rfl, rfl⟩ | exact ⟨.nilp, rfl, rfl⟩ | skip) | skip
  · rename_i s
    exact ⟨by have := PR.str (S := S) (w := w) s.data.toList; simpa using this, rfl, rfl⟩
  · rename_i f a b
    split at h
    · rename_i hs
      injection h with h
      subst h
      exact ⟨.fn _ _ _ _ _ (by simp [hs.1]) (by simp [hs.2]) (fun j x u hx => by simp at hx) (fun j x u hx => by simp at hx), rfl, rfl⟩
    · cases h
  · cases h
theorem ofCells_rel : ∀ {vs : List Value} {xs : List AV}, ofCells vs = some xs → ∀ (S : Nat → Prop) (w : World), vs.length = xs.length ∧ ∀ (j : Nat) (x : AV) (u : Value), xs[j]? = some x → vs[j]? = some u → PR S w x u ∧ u.oneCell' = true ∧ cellOk x = true
  | [], xs, h, S, w => by
    simp only [ofCells] at h
    injection h with h
    subst h
    exact ⟨rfl, fun j x u hx => by simp at hx⟩
  | v :: vs, xs, h, S, w => by
    simp only [ofCells] at h
    split at h
    · rename_i x xs' hx hxs
      injection h with h
      subst h
      obtain ⟨hl, hh⟩ := ofCells_rel hxs S w
      refine ⟨by simp [hl], fun j y u hy hu => ?_⟩
      cases j with
      | zero =>
        simp at hy hu
        subst hy; subst hu
        exact ofCell_rel hx S w
      | succ j =>
        simp at hy hu
        exact hh j y u hy hu
    · cases h
theorem ofConst_rel {v : Value} {x : AV} (h : ofConst v = some x) (S : Nat → Prop) (w : World) : PR S w x v := by
  unfold ofConst at h
  split at h
  · rename_i cs
    cases hc : ofCells cs.toList with
    | none => rw [hc] at h; cases h
    | some xs =>
      rw [hc] at h
      simp only [Option.map_some] at h
      injection h with h
      subst h
      obtain ⟨hl, hh⟩ := ofCells_rel hc S w
      refine .agg _ _ (by simpa using hl) (fun j x u hx hu => (hh j x u hx (by simpa using hu)).1) (fun j u hu => ?_)
      have hj : j < cs.size := (Array.getElem?_eq_some_iff.1 hu).1
      have hj' : j < xs.length := by rw [← hl]; simpa using hj
      exact (hh j _ u (List.getElem?_eq_getElem hj') (by simpa using hu)).2.1
  · split at h
    · rename_i vs hs
      injection h with h
      subst h
      exact .tup _ _ (by simp [hs]) (fun j x u hx => by simp at hx)
    · cases h
  · exact (ofCell_rel h S w).1

/-! ### the frame -/
structure AR (c : Ctx) (a : AAct) (ca : Act) : Prop where
  defers : ca.defers = []
  slot : ∀ t, VR c (a t) (ca.tmps.getD t undef)
theorem AR.mono {c c' : Ctx} (m : Mono c c') {a : AAct} {ca : Act} (h : AR c a ca) : AR c' a ca := ⟨h.defers, fun t => (h.slot t).mono m⟩
theorem opd_rel {c : Ctx} {a : AAct} {ca : Act} (h : AR c a ca) {x : Operand} {v : AV} (hv : opd a x = some v) : VR c v (ca.eval x) := by
  cases x with
  | tmp t => simp only [opd] at hv; injection hv with hv; subst hv; exact h.slot t
  | const u => exact .data _ _ (ofConst_rel hv _ _)
  | global g => cases hv
  | func f =>
    simp only [opd] at hv
    injection hv with hv
    subst hv
    exact .data _ _ (.fn _ _ _ #[] #[] rfl rfl (fun j x u hx => by simp at hx) (fun j x u hx => by simp at hx))
theorem AR.put {c : Ctx} {a : AAct} {ca : Act} (h : AR c a ca) (d : Option Nat) (hd : ∀ t, d = some t → t < ca.tmps.size) {v : AV} {u : Value} (hv : VR c v u) : AR c (putO a d v) (ca.put d u) := by
  cases d with
  | none => exact h
  | some t =>
    have ht := hd t rfl
    refine ⟨h.defers, fun s => ?_⟩
    simp only [putO, A.put, Act.put]
    by_cases e : s = t
    · subst e
      rw [if_pos rfl]
      simp only [Array.getD_eq_getD_getElem?, Array.getElem?_setIfInBounds_self_of_lt ht, Option.getD_some]
      exact hv
    · rw [if_neg e]
      simp only [Array.getD_eq_getD_getElem?, Array.getElem?_setIfInBounds_ne (Ne.symm e)]
      have := h.slot s
      simpa only [Array.getD_eq_getD_getElem?] using this
theorem put_size (ca : Act) (d : Option Nat) (u : Value) : (ca.put d u).tmps.size = ca.tmps.size := by cases d <;> simp [Act.put]

/-! ### reading cells -/
section
variable {P : Program} {c : Ctx}
theorem tAgg_run {t : TypeId} {b : Bool} (h : tAgg P t = some b) (w : World) : (isAgg t).run P w = .ok b w := by
  unfold tAgg at h
  split at h
  · rename_i hu
    injection h with h; subst h; simp [isAgg, run_underlying hu]
  · rename_i hu
    injection h with h; subst h; simp [isAgg, run_underlying hu]
  · rename_i hu
    injection h with h; subst h
    rename_i d h1 h2
    revert h1 h2 hu
    cases d <;> intro h1 h2 hu <;> first | (simp [isAgg, run_underlying hu]; done) | exact absurd rfl (h1 _) | exact absurd rfl (h2 _ _)
  · cases h
theorem tSize_info {t : TypeId} {n : Nat} (h : tSize P t = some n) : ∃ i, P.info? t = some i ∧ i.size = n := by
  unfold tSize at h
  cases hi : P.info? t with
  | none => rw [hi] at h; cases h
  | some i => rw [hi] at h; simp at h; exact ⟨i, rfl, h⟩
theorem tSize_run {t : TypeId} {n : Nat} (h : tSize P t = some n) (w : World) : (sizeOf t).run P w = .ok n w := by
  obtain ⟨i, hi, rfl⟩ := tSize_info h
  simp [sizeOf, typeInfo, hi]

/-- A value of a type, loaded from where its cells lie. -/
theorem load_rel {t : TypeId} {a : Addr} {cs : List AV} {x : AV} (hcs : ∀ (j : Nat) (y : AV), cs[j]? = some y → ∃ u : Value, c.w.cell? (a.add j) = some u ∧ u.oneCell' = true ∧ VR c y u) (h : takeT P t cs = some x) :
    ∃ v, (loadVar t a).run P c.w = .ok v c.w ∧ VR c x v := by
  unfold takeT at h
  split at h
  · rename_i b n hb hn
    cases b with
    | true =>
      simp only [take1] at h
      split at h
      · rename_i hle
        injection h with h
        subst h
        have hex : ∀ j, ∃ u : Value, j < n → c.w.cell? (a.add j) = some u ∧ u.oneCell' = true ∧ ∀ y, cs[j]? = some y → VR c y u := fun j => by
          by_cases hj : j < n
          · obtain ⟨u, h1, h2, h3⟩ := hcs j _ (List.getElem?_eq_getElem (show j < cs.length by omega))
            exact ⟨u, fun _ => ⟨h1, h2, fun y hy => by rw [List.getElem?_eq_getElem (show j < cs.length by omega)] at hy; injection hy with hy; subst hy; exact h3⟩⟩
          · exact ⟨undef, fun h => absurd h hj⟩
        have hf := Classical.axiomOfChoice hex
        obtain ⟨f, hf⟩ := hf
        have hr := run_loadCells (P := P) c.w a n f (fun j hj => (hf j hj).1)
        refine ⟨.agg ((List.range n).map f).toArray, ?_, .agg _ _ (by simp; omega) (fun j y u hy hu => ?_) (fun j u hu => ?_)⟩
        · simp only [loadVar, Sem.run_bind, tAgg_run hb, tSize_run hn, Result.andThen_ok, if_true, hr, Sem.run_pure]
        · have hj : j < n := by have := (List.getElem?_eq_some_iff.1 hy).1; simp at this; omega
          rw [List.getElem?_take, if_pos hj] at hy
          have : u = f j := by simpa [hj] using hu.symm
          rw [this]
          exact (hf j hj).2.2 y hy
        · have hj : j < n := by have := (Array.getElem?_eq_some_iff.1 hu).1; simpa using this
          have : u = f j := by simpa [hj] using hu.symm
          rw [this]
          exact (hf j hj).2.1
      · cases h
    | false =>
      cases cs with
      | nil => cases h
      | cons y ys =>
        simp only [take1] at h
        injection h with h
        subst h
        obtain ⟨u, h1, _, h3⟩ := hcs 0 y rfl
        have h1' : c.w.cell? a = some u := by simpa [Addr.add] using h1
        refine ⟨u, ?_, h3⟩
        simp only [loadVar, Sem.run_bind, tAgg_run hb, Result.andThen_ok, Bool.false_eq_true, if_false, run_load, h1']
  · cases h
end

theorem plain_add (b o n : Nat) : (⟨b, o, none⟩ : Addr).add n = ⟨b, o + n, none⟩ := by
  unfold Addr.add
  split
  · subst_vars; rfl
  · rfl

/-- A live row's cells. -/
theorem row_cells {c : Ctx} (h : Inv c) {k : Tag} {r : Row} (hr : c.H k = some (.row r)) (off : Nat) : ∀ (j : Nat) (y : AV), (r.cs.drop off)[j]? = some y → ∃ u : Value, c.w.cell? ((⟨c.φ k, off, none⟩ : Addr).add j) = some u ∧ u.oneCell' = true ∧ VR c y u := by
  intro j y hy
  obtain ⟨_, _, _, _, cells, mk, hc, _, _, hl, hx⟩ := h.row k r hr
  rw [List.getElem?_drop] at hy
  obtain ⟨u, h1, h2, h3⟩ := hx _ y hy
  refine ⟨u, ?_, h2, h3⟩
  rw [plain_add]
  simp [World.cell?, hc, h1]

theorem aLoad_rel {P : Program} {c : Ctx} (hI : Inv c) {t : TypeId} {p v : AV} {pv : Value} {H : AH} (hH : c.H = H.o) (hp : VR c p pv) (h : aLoad P t p H = some v) :
    ∃ cv, (Instr.loadAt t pv).run P c.w = .ok cv c.w ∧ VR c v cv := by
  unfold aLoad at h
  split at h
  · rename_i k g off
    split at h
    · rename_i r hr
      rw [← hH] at hr
      obtain ⟨_, _, _, rfl, hv⟩ := hp.ptr_
      obtain rfl := hv r hr
      obtain ⟨cv, h1, h2⟩ := load_rel (P := P) (row_cells hI (aRow_some hr).1 off) h
      exact ⟨cv, by simp [Instr.loadAt, Instr.sureAddr, h1], h2⟩
    · cases h
  · obtain ⟨a, rfl, _, hc⟩ := hp.fptr_
    obtain ⟨cv, h1, h2⟩ := load_rel (P := P) (c := c) (fun j y hy => by obtain ⟨u, a1, a2, a3⟩ := hc j y hy; exact ⟨u, a1, a2, .data _ _ a3⟩) h
    exact ⟨cv, by simp [Instr.loadAt, Instr.sureAddr, h1], h2⟩
  · cases h

/-! ### writing cells -/
theorem store_run {P : Program} : ∀ (vs : List Value) (i : Nat) (w : World) (g o : Nat) (cur : Array Value) (t : TypeId) (m : Nat × Nat), w.heap[g]? = some (.cells cur t m) → o + i + vs.length ≤ cur.size → (∀ v ∈ vs, v.oneCell' = true) → (m.2 ≤ o + i ∨ o + i + vs.length ≤ m.1) →
    ∃ w' cur', (storeCells ⟨g, o, none⟩ vs i).run P w = .ok () w' ∧ Wr w w' g (.cells cur' t m) ∧ cur'.size = cur.size ∧ ∀ j, cur'[j]? = if o + i ≤ j ∧ j < o + i + vs.length then vs[j - (o + i)]? else cur[j]?
  | [], i, w, g, o, cur, t, m, hg, _, _, _ => ⟨w, cur, rfl, ⟨rfl, rfl, rfl, rfl, hg, fun _ _ => rfl⟩, rfl, fun j => by rw [if_neg (by simp only [List.length_nil]; omega)]⟩
  | v :: vs, i, w, g, o, cur, t, m, hg, hfit, hone, hm => by
    have hv : v.oneCell' = true := hone v List.mem_cons_self
    have hlt : o + i < cur.size := by simp only [List.length_cons] at hfit; omega
    have hcell : w.cell? ⟨g, o + i, none⟩ = some (cur[o + i]'hlt) := by simp [World.cell?, hg, hlt]
    have hfr : w.frozen? ⟨g, o + i, none⟩ = false := by
      simp only [World.frozen?, hg]
      simp only [List.length_cons] at hm
      rcases hm with hm | hm
      · simp; omega
      · simp; omega
    have hst : (store ((⟨g, o, none⟩ : Addr).add i) v).run P w = .ok () (w.setCell ⟨g, o + i, none⟩ v) := by
      rw [plain_add, run_store P w _ v _ hv, hcell]
      simp [hfr]
    have hw1 : (w.setCell ⟨g, o + i, none⟩ v).heap[g]? = some (.cells (cur.setIfInBounds (o + i) v) t m) := by
      simp [World.setCell, Array.getElem?_modify, hg]
    obtain ⟨w', cur', hr, hw, hs, hc⟩ := store_run (P := P) vs (i + 1) (w.setCell ⟨g, o + i, none⟩ v) g o (cur.setIfInBounds (o + i) v) t m hw1 (by simp only [Array.size_setIfInBounds, List.length_cons] at *; omega) (fun u hu => hone u (List.mem_cons_of_mem _ hu)) (by simp only [List.length_cons] at hm; omega)
    refine ⟨w', cur', ?_, ⟨hw.os, hw.tape, hw.output, hw.size.trans (by simp [World.setCell]), hw.at_, fun b hb => (hw.else_ b hb).trans (RowKit.Below.heap_setCell w _ v b hb)⟩, by rw [hs]; simp, fun j => ?_⟩
    · simp only [storeCells, Sem.run_bind, hst, Result.andThen_ok, hr]
    · rw [hc j]
      simp only [List.length_cons]
      by_cases h1 : o + (i + 1) ≤ j ∧ j < o + (i + 1) + vs.length
      · rw [if_pos h1, if_pos (by omega)]
        rw [show j - (o + i) = (j - (o + (i + 1))) + 1 by omega]
        simp
      · rw [if_neg h1]
        by_cases h2 : j = o + i
        · subst h2
          rw [if_pos (by omega)]
          simp [hlt]
        · rw [if_neg (by omega), Array.getElem?_setIfInBounds_ne (by omega)]

end Go.Proofs.YtpmjpogcaglphaaDoor.A
/- A, part 7: operations on plain values; equality of structs and arrays. -/
namespace Go.Proofs.YtpmjpogcaglphaaDoor.A
open Go

theorem str_toList (s : List UInt8) : (⟨s.toArray⟩ : ByteArray).toList = s := by rw [ByteArray.toList_eq]
theorem str_size (s : List UInt8) : (⟨s.toArray⟩ : ByteArray).size = s.length := by simp [ByteArray.size]

/-- Nothing turns but perhaps the orders drawn; the answer is related. -/
def Says (P : Program) (c : Ctx) (s : Sem Value) (v : AV) : Prop := ∃ cv, s.run P c.w = .ok cv c.w ∧ VR c v cv

section
variable {P : Program} {c : Ctx}
theorem bits_rel {op : BinOp} {k : IntKind} {x y : Int} {v : AV} (h : aBits op k x y = some v) : Says P c (Op.intBits op k x y) v := by
  unfold aBits at h
  cases op <;> dsimp only at h <;> first | (injection h with h; subst h; exact ⟨_, rfl, VR.int ..⟩) | (exact absurd h (by simp))
theorem int_rel {op : BinOp} {t : TypeId} {k : IntKind} {x y : Int} {v : AV} (hs : op ≠ .shl) (hs' : op ≠ .shr) (h : aInt op k x y = some v) : Says P c (binOp op t (.int k x) (.int k y)) v := by
  unfold aInt at h
  cases op <;> dsimp only at h
  case shl => exact absurd rfl hs
  case shr => exact absurd rfl hs'
  case quo | rem =>
    split at h
    · cases h
    · rename_i hy
      injection h with h; subst h
      refine ⟨_, ?_, VR.int ..⟩
      simp [binOp, Op.intDiv, hy]
  case and | or | xor | andNot =>
    obtain ⟨cv, h1, h2⟩ := bits_rel (P := P) (c := c) h
    exact ⟨cv, by simpa [binOp] using h1, h2⟩
  case add | sub | mul =>
    injection h with h; subst h
    refine ⟨_, ?_, VR.int ..⟩
    simp [binOp, Op.intArith]
  all_goals
    injection h with h; subst h
    refine ⟨_, ?_, VR.bool ..⟩
    simp [binOp, Op.intCmp]
theorem shift_rel {op : BinOp} {t : TypeId} {k k' : IntKind} {x y : Int} {v : AV} (hs : op = .shl ∨ op = .shr) (h : aShift op k x y = some v) : Says P c (binOp op t (.int k x) (.int k' y)) v := by
  unfold aShift at h
  split at h
  · cases h
  · rename_i hy
    rcases hs with rfl | rfl
    all_goals
      dsimp only at h
      injection h with h; subst h
      refine ⟨_, ?_, VR.int ..⟩
      simp [binOp, Op.shift, hy]
theorem strOp_rel {op : BinOp} {t : TypeId} {x y : List UInt8} {v : AV} (h : aStr op x y = some v) : Says P c (binOp op t (.string ⟨x.toArray⟩) (.string ⟨y.toArray⟩)) v := by
  unfold aStr at h
  cases op <;> dsimp only at h
  case add =>
    split at h
    · rename_i hl
      injection h with h; subst h
      refine ⟨.string ⟨(x ++ y).toArray⟩, ?_, VR.str ..⟩
      have hb : binOp .add t (.string ⟨x.toArray⟩) (.string ⟨y.toArray⟩) = Op.stringOp .add ⟨x.toArray⟩ ⟨y.toArray⟩ := by simp [binOp]
      rw [hb, run_string_add_sum _ _ _ (by rw [str_size, str_size]; exact hl), ByteArray.mk_append_mk]
    · cases h
  case eql | neq | lss | leq | gtr | geq =>
    injection h with h; subst h
    refine ⟨_, ?_, VR.bool ..⟩
    simp [binOp, Op.stringOp, str_toList]
  all_goals exact absurd h (by simp)
theorem un_rel {op : UnOp} {x v : AV} {xv : Value} (hx : VR c x xv) (h : aUn op x = some v) : Says P c (Op.unary op xv) v := by
  unfold aUn at h
  split at h
  · obtain rfl := hx.int_
    injection h with h; subst h
    exact ⟨_, rfl, VR.int ..⟩
  · obtain rfl := hx.int_
    obtain ⟨cv, h1, h2⟩ := bits_rel (P := P) (c := c) h
    exact ⟨cv, h1, h2⟩
  · obtain rfl := hx.bool_
    injection h with h; subst h
    exact ⟨_, rfl, VR.bool ..⟩
  · cases h

/-! ### equality, cell by cell -/
theorem eqLeaf_rel {l : Leaf} {x y : AV} {b : Bool} {xv yv : Value} (hx : VR c x xv) (hy : VR c y yv) (h : eqLeaf l x y = some b) :
    (l = .int ∧ ∃ k m n, xv = .int k m ∧ yv = .int k n ∧ b = (m == n)) ∨ (l = .bool ∧ ∃ m n, xv = .bool m ∧ yv = .bool n ∧ b = (m == n)) ∨ (l = .str ∧ ∃ m n : ByteArray, xv = .string m ∧ yv = .string n ∧ b = (m == n)) := by
  unfold eqLeaf at h
  split at h
  · obtain rfl := hx.int_
    obtain rfl := hy.int_
    split at h
    · rename_i e
      subst e
      injection h with h
      exact .inl ⟨rfl, _, _, _, rfl, rfl, h.symm⟩
    · cases h
  · obtain rfl := hx.bool_
    obtain rfl := hy.bool_
    injection h with h
    exact .inr (.inl ⟨rfl, _, _, rfl, rfl, h.symm⟩)
  · obtain rfl := hx.str_
    obtain rfl := hy.str_
    injection h with h
    refine .inr (.inr ⟨rfl, _, _, rfl, rfl, ?_⟩)
    rw [beq_toListBytes, str_toList, str_toList]
    exact h.symm
  · cases h
theorem eqLeafs_len : ∀ {ls : List Leaf} {xs ys : List AV} {b : Bool}, eqLeafs ls xs ys = some b → xs.length = ls.length ∧ ys.length = ls.length
  | [], [], [], _, _ => ⟨rfl, rfl⟩
  | [], [], _ :: _, _, h => by cases h
  | [], _ :: _, _, _, h => by cases h
  | _ :: _, [], _, _, h => by cases h
  | _ :: _, _ :: _, [], _, h => by cases h
  | l :: ls, x :: xs, y :: ys, b, h => by
    simp only [eqLeafs] at h
    split at h
    · rename_i h2
      have := eqLeafs_len h2
      simp [this]
    · cases h
theorem eqLeafs_append : ∀ {l l' : List Leaf} {xs ys : List AV} {b : Bool}, eqLeafs (l ++ l') xs ys = some b → ∃ b1 b2, eqLeafs l (xs.take l.length) (ys.take l.length) = some b1 ∧ eqLeafs l' (xs.drop l.length) (ys.drop l.length) = some b2 ∧ b = (b1 && b2)
  | [], l', xs, ys, b, h => ⟨true, b, rfl, h, rfl⟩
  | l :: ls, l', xs, ys, b, h => by
    cases xs with
    | nil => cases h
    | cons x xs =>
      cases ys with
      | nil => cases h
      | cons y ys =>
        simp only [List.cons_append, eqLeafs] at h
        split at h
        · rename_i a1 a2 h1 h2
          injection h with h
          obtain ⟨b1, b2, e1, e2, e3⟩ := eqLeafs_append h2
          exact ⟨a1 && b1, b2, by simp [eqLeafs, h1, e1], by simpa using e2, by rw [← h, e3, Bool.and_assoc]⟩
        · cases h

/-- Cells that are related, one by one. -/
def Cells (c : Ctx) (xs : List AV) (vs : Array Value) : Prop := vs.size = xs.length ∧ ∀ (j : Nat) (x : AV) (u : Value), xs[j]? = some x → vs[j]? = some u → VR c x u
theorem Cells.extract {xs : List AV} {vs : Array Value} (h : Cells c xs vs) (off n : Nat) (hn : off + n ≤ xs.length) : Cells c ((xs.drop off).take n) (vs.extract off (off + n)) := by
  have := h.1
  refine ⟨by simp; omega, fun j x u hx hu => h.2 (off + j) x u ?_ ?_⟩
  · have hj : j < n := by have := (List.getElem?_eq_some_iff.1 hx).1; simp at this; omega
    rwa [List.getElem?_take, if_pos hj, List.getElem?_drop] at hx
  · have hj : j < n := by have := (Array.getElem?_eq_some_iff.1 hu).1; simp at this; omega
    rw [Array.getElem?_extract] at hu
    split at hu
    · exact hu
    · cases hu
/-- A value of type t whose cells are these. -/
def TV (P : Program) (c : Ctx) (t : TypeId) (xs : List AV) (v : Value) : Prop :=
  (tAgg P t = some true ∧ ∃ vs, v = .agg vs ∧ Cells c xs vs) ∨ (tAgg P t = some false ∧ ∃ x, xs = [x] ∧ VR c x v)

theorem take_one {xs : List AV} {off : Nat} {x : AV} (h : xs[off]? = some x) : (xs.drop off).take 1 = [x] := by
  have hlt := (List.getElem?_eq_some_iff.1 h).1
  rw [List.drop_eq_getElem_cons hlt]
  have := (List.getElem?_eq_some_iff.1 h).2
  simp [this]

theorem part_TV {t : TypeId} {xs : List AV} {vs : Array Value} (h : Cells c xs vs) {off n : Nat} {b : Bool} (hb : tAgg P t = some b) (hn : tSize P t = some n) (hfit : off + n ≤ xs.length) (hone : b = false → n = 1) (w : World) :
    ∃ v, (part t vs off).run P w = .ok v w ∧ TV P c t ((xs.drop off).take n) v := by
  cases b with
  | true => exact ⟨_, by simp only [part, Sem.run_bind, tAgg_run hb, tSize_run hn, Result.andThen_ok, if_true, Sem.run_pure], .inl ⟨hb, _, rfl, h.extract off n hfit⟩⟩
  | false =>
    have h1 := hone rfl
    subst h1
    have hlt : off < vs.size := by have := h.1; omega
    have hx : xs[off]? = some (xs[off]'(by omega)) := List.getElem?_eq_getElem (by omega)
    refine ⟨vs[off], by simp [part, tAgg_run hb, hlt], .inr ⟨hb, _, take_one hx, h.2 off _ _ hx (by simp [hlt])⟩⟩

/-- What leafs promises of a type. -/
def Leafy (P : Program) (d : Nat) (t : TypeId) (ls : List Leaf) : Prop :=
  tSize P t = some ls.length ∧ (∃ b, tAgg P t = some b ∧ (b = false → ls.length = 1)) ∧
  ∀ D, d ≤ D → ∀ (c : Ctx) (xs ys : List AV) (xv yv : Value) (r : Bool) (w : World), TV P c t xs xv → TV P c t ys yv → eqLeafs ls xs ys = some r → (Op.equalIn D t xv yv).run P w = .ok r w

theorem eqItems_rel {d : Nat} {e : TypeId} {l : List Leaf} (IH : Leafy P d e l) {D : Nat} (hD : d ≤ D) (w : World) : ∀ (m i : Nat) (xs ys : List AV) (xv yv : Array Value) (r : Bool), Cells c xs xv → Cells c ys yv → i * l.length + m * l.length ≤ xs.length → i * l.length + m * l.length ≤ ys.length →
    eqLeafs (reps l m) ((xs.drop (i * l.length)).take (m * l.length)) ((ys.drop (i * l.length)).take (m * l.length)) = some r → (Op.eqItems D e l.length xv yv (List.range' i m)).run P w = .ok r w
  | 0, i, xs, ys, xv, yv, r, _, _, _, _, h => by
    simp [reps, eqLeafs] at h
    subst h
    simp [Op.eqItems]
  | m + 1, i, xs, ys, xv, yv, r, hx, hy, hfx, hfy, h => by
    obtain ⟨hs, ⟨b, hb, hone⟩, heq⟩ := IH
    rw [Nat.succ_mul] at hfx hfy h
    simp only [reps] at h
    obtain ⟨b1, b2, e1, e2, rfl⟩ := eqLeafs_append h
    rw [List.take_take, List.take_take, Nat.min_eq_left (by omega)] at e1
    rw [List.drop_take, List.drop_take, List.drop_drop, List.drop_drop, Nat.add_sub_cancel, ← Nat.succ_mul, Nat.succ_eq_add_one] at e2
    obtain ⟨u, p1, t1⟩ := part_TV (P := P) hx (off := i * l.length) hb hs (by omega) hone w
    obtain ⟨v, p2, t2⟩ := part_TV (P := P) hy (off := i * l.length) hb hs (by omega) hone w
    have p3 := heq D hD c _ _ u v b1 w t1 t2 e1
    have ih := eqItems_rel ⟨hs, ⟨b, hb, hone⟩, heq⟩ hD w m (i + 1) xs ys xv yv b2 hx hy (by rw [Nat.succ_mul]; omega) (by rw [Nat.succ_mul]; omega) e2
    rw [List.range'_succ]
    simp only [Op.eqItems, Sem.run_bind, p1, p2, p3, Result.andThen_ok]
    cases b1
    · simp
    · simpa using ih

theorem eqFields_rel {d D : Nat} (hD : d ≤ D) (IH : ∀ t ls, leafs P d t = some ls → Leafy P d t ls) (w : World) : ∀ (fs : List Field) (off : Nat) (ls : List Leaf) (xs ys : List AV) (xv yv : Array Value) (r : Bool), leafs.fieldLeafs (leafs P d) (tSize P) fs off = some ls → Cells c xs xv → Cells c ys yv → off + ls.length = xs.length → off + ls.length = ys.length →
    eqLeafs ls (xs.drop off) (ys.drop off) = some r → (Op.eqFields D xv yv fs).run P w = .ok r w
  | [], off, ls, xs, ys, xv, yv, r, h, _, _, hx, hy, he => by
    simp only [leafs.fieldLeafs] at h
    injection h with h
    subst h
    simp only [List.length_nil, Nat.add_zero] at hx hy
    rw [List.drop_eq_nil_of_le (by omega), List.drop_eq_nil_of_le (by omega)] at he
    simp only [eqLeafs] at he
    injection he with he
    subst he
    simp [Op.eqFields]
  | f :: fs, off, ls, xs, ys, xv, yv, r, h, cx, cy, hx, hy, he => by
    simp only [leafs.fieldLeafs] at h
    split at h
    · rename_i l hl
      split at h
      · rename_i hc
        obtain ⟨hn, ho, hsz⟩ := hc
        subst ho
        cases hrest : leafs.fieldLeafs (leafs P d) (tSize P) fs (f.offset + l.length) with
        | none => rw [hrest] at h; cases h
        | some ls' =>
          rw [hrest] at h
          simp only [Option.map_some] at h
          injection h with h
          subst h
          obtain ⟨hs, ⟨b, hb, hone⟩, heq⟩ := IH f.type l hl
          obtain ⟨b1, b2, e1, e2, rfl⟩ := eqLeafs_append he
          rw [List.drop_drop, List.drop_drop] at e2
          simp only [List.length_append] at hx hy
          obtain ⟨u, p1, t1⟩ := part_TV (P := P) cx (off := f.offset) hb hs (by omega) hone w
          obtain ⟨v, p2, t2⟩ := part_TV (P := P) cy (off := f.offset) hb hs (by omega) hone w
          have p3 := heq D hD c _ _ u v b1 w t1 t2 e1
          have ih := eqFields_rel hD IH w fs (f.offset + l.length) ls' xs ys xv yv b2 hrest cx cy (by omega) (by omega) e2
          simp only [Op.eqFields, hn, ne_eq, not_false_eq_true, if_true, Sem.run_bind, p1, p2, p3, Result.andThen_ok]
          cases b1
          · simp
          · simpa using ih
      · cases h
    · cases h

theorem reps_length {α : Type} (l : List α) (n : Nat) : (reps l n).length = n * l.length := by
  induction n with
  | zero => simp [reps]
  | succ n ih => simp [reps, ih, Nat.succ_mul]; omega

theorem leafs_rel : ∀ (d : Nat) (t : TypeId) (ls : List Leaf), leafs P d t = some ls → Leafy P d t ls
  | 0, t, ls, h => by cases h
  | d + 1, t, ls, h => by
    unfold leafs at h
    split at h
    · rename_i hu
      split at h
      · rename_i hs
        injection h with h
        subst h
        refine ⟨hs, ⟨false, by simp [tAgg, hu], fun _ => rfl⟩, fun D hD c xs ys xv yv r w hx hy he => ?_⟩
        obtain ⟨D, rfl⟩ : ∃ D', D = D' + 1 := ⟨D - 1, by omega⟩
        rcases hx with ⟨hh, _⟩ | ⟨_, x, rfl, hx⟩
        · simp [tAgg, hu] at hh
        rcases hy with ⟨hh, _⟩ | ⟨_, y, rfl, hy⟩
        · simp [tAgg, hu] at hh
        simp only [eqLeafs] at he
        split at he
        · rename_i a1 a2 h1 h2
          injection he with he
          injection h2 with h2
          subst h2
          simp at he
          subst he
          rcases eqLeaf_rel hx hy h1 with ⟨hh, _⟩ | ⟨_, m, n, rfl, rfl, rfl⟩ | ⟨hh, _⟩
          · cases hh
          · simp [Op.equalIn, run_underlying hu]
          · cases hh
        · cases he
      · cases h
    · rename_i hu
      split at h
      · rename_i hs
        injection h with h
        subst h
        refine ⟨hs, ⟨false, by simp [tAgg, hu], fun _ => rfl⟩, fun D hD c xs ys xv yv r w hx hy he => ?_⟩
        obtain ⟨D, rfl⟩ : ∃ D', D = D' + 1 := ⟨D - 1, by omega⟩
        rcases hx with ⟨hh, _⟩ | ⟨_, x, rfl, hx⟩
        · simp [tAgg, hu] at hh
        rcases hy with ⟨hh, _⟩ | ⟨_, y, rfl, hy⟩
        · simp [tAgg, hu] at hh
        simp only [eqLeafs] at he
        split at he
        · rename_i a1 a2 h1 h2
          injection he with he
          injection h2 with h2
          subst h2
          simp at he
          subst he
          rcases eqLeaf_rel hx hy h1 with ⟨_, k, m, n, rfl, rfl, rfl⟩ | ⟨hh, _⟩ | ⟨hh, _⟩
          · simp [Op.equalIn, run_underlying hu]
          · cases hh
          · cases hh
        · cases he
      · cases h
    · rename_i hu
      split at h
      · rename_i hs
        injection h with h
        subst h
        refine ⟨hs, ⟨false, by simp [tAgg, hu], fun _ => rfl⟩, fun D hD c xs ys xv yv r w hx hy he => ?_⟩
        obtain ⟨D, rfl⟩ : ∃ D', D = D' + 1 := ⟨D - 1, by omega⟩
        rcases hx with ⟨hh, _⟩ | ⟨_, x, rfl, hx⟩
        · simp [tAgg, hu] at hh
        rcases hy with ⟨hh, _⟩ | ⟨_, y, rfl, hy⟩
        · simp [tAgg, hu] at hh
        simp only [eqLeafs] at he
        split at he
        · rename_i a1 a2 h1 h2
          injection he with he
          injection h2 with h2
          subst h2
          simp at he
          subst he
          rcases eqLeaf_rel hx hy h1 with ⟨hh, _⟩ | ⟨hh, _⟩ | ⟨_, m, n, rfl, rfl, rfl⟩
          · cases hh
          · cases hh
          · simp [Op.equalIn, run_underlying hu]
        · cases he
      · cases h
    · rename_i n e hu
      split at h
      · rename_i l hl
        split at h
        · rename_i hs
          injection h with h
          subst h
          have IH := leafs_rel d e l hl
          refine ⟨by rw [hs.2, reps_length], ⟨true, by simp [tAgg, hu], fun hh => by cases hh⟩, fun D hD c xs ys xv yv r w hx hy he => ?_⟩
          obtain ⟨D, rfl⟩ : ∃ D', D = D' + 1 := ⟨D - 1, by omega⟩
          rcases hx with ⟨_, vs, rfl, hx⟩ | ⟨hh, _⟩
          · rcases hy with ⟨_, us, rfl, hy⟩ | ⟨hh, _⟩
            · obtain ⟨i, hi, hisz⟩ := tSize_info hs.1
              have hcells : P.cellsOf e = l.length := by simp [Program.cellsOf, hi, hisz]
              rw [run_equalIn_array w D vs us hu hi, hcells, List.range_eq_range']
              have hlen := eqLeafs_len he
              rw [reps_length] at hlen
              refine eqItems_rel (c := c) IH (by omega) w n 0 xs ys vs us r hx hy (by omega) (by omega) ?_
              simp only [Nat.zero_mul, List.drop_zero]
              rw [List.take_of_length_le (by omega), List.take_of_length_le (by omega)]
              exact he
            · simp [tAgg, hu] at hh
          · simp [tAgg, hu] at hh
        · cases h
      · cases h
    · rename_i fs hu
      split at h
      · cases h
      · rename_i hst
        split at h
        · rename_i l hl
          split at h
          · rename_i hs
            injection h with h
            subst h
            refine ⟨hs, ⟨true, by simp [tAgg, hu], fun hh => by cases hh⟩, fun D hD c xs ys xv yv r w hx hy he => ?_⟩
            obtain ⟨D, rfl⟩ : ∃ D', D = D' + 1 := ⟨D - 1, by omega⟩
            rcases hx with ⟨_, vs, rfl, hx⟩ | ⟨hh, _⟩
            · rcases hy with ⟨_, us, rfl, hy⟩ | ⟨hh, _⟩
              · have hf : P.fieldsOf t = fs := by simp [Program.fieldsOf, hu]
                rw [run_equalIn_struct w D t vs us (by rw [hf]; exact hu) (by simpa using hst), hf]
                have hlen := eqLeafs_len he
                exact eqFields_rel (by omega) (fun t' ls' h' => leafs_rel d t' ls' h') w fs.toList 0 l xs ys vs us r hl hx hy (by omega) (by omega) (by simpa using he)
              · simp [tAgg, hu] at hh
            · simp [tAgg, hu] at hh
          · cases h
        · cases h
    · cases h

theorem eqGuard_agg {op : BinOp} {t : TypeId} {ox oy : Operand} {vs us : Array Value} (h : P.eqGuardType P.depth t = false) (w : World) : (eqGuard op t ox oy (.agg vs) (.agg us)).run P w = .ok () w := by
  cases op <;> simp [eqGuard, h]

theorem isSlT_some {d : Option TypeDesc} (h : isSlT d = true) : ∃ e, d = some (.slice e) := by
  unfold isSlT at h
  split at h
  · exact ⟨_, rfl⟩
  · cases h
theorem nil_key {t : TypeId} {x : AV} {xv : Value} {b : Bool} (hx : VR c x xv) (hn : nilA x = some b) (hu : isSlT (P.underlying t) = true) : (Op.equalIn 10000 t xv (.slice none 0 0)).run P c.w = .ok b c.w ∧ ∃ A n cap, xv = .slice A n cap := by
  obtain ⟨e, hu⟩ := isSlT_some hu
  have h0 : ∀ d n cap, (Op.equalIn (d + 1) t (.slice none n cap) (.slice none 0 0)).run P c.w = .ok true c.w := fun d n cap => by simp [Op.equalIn, run_underlying hu]
  have h1 : ∀ d a n cap, (Op.equalIn (d + 1) t (.slice (some a) n cap) (.slice none 0 0)).run P c.w = .ok false c.w := fun d a n cap => by simp [Op.equalIn, run_underlying hu]
  unfold nilA at hn
  split at hn
  · injection hn with hn
    subst hn
    cases hx with
    | data _ _ hp =>
      cases hp
      exact ⟨h0 9999 _ _, _, _, _, rfl⟩
  · split at hn
    · rename_i hlt
      injection hn with hn
      subst hn
      cases hx with
      | data _ _ hp =>
        cases hp with
        | sl n cs A cap u _ hA =>
          obtain ⟨a, rfl⟩ := hA hlt
          exact ⟨h1 9999 _ _ _, _, _, _, rfl⟩
    · cases hn
  · split at hn
    · rename_i hc
      injection hn with hn
      subst hn
      cases hx with
      | data _ _ hp => cases hp
      | ref k g off n A cap _ _ _ hA =>
        obtain ⟨a, rfl⟩ := hA hc
        exact ⟨h1 9999 _ _ _, _, _, _, rfl⟩
    · cases hn
  · cases hn
theorem bin_rel {op : BinOp} {t : TypeId} {ox oy : Operand} {x y v : AV} {xv yv : Value} (hx : VR c x xv) (hy : VR c y yv) (h : aBin P op t x y = some v) :
    Says P c (do eqGuard op t ox oy xv yv; binOp op t xv yv) v := by
  unfold aBin at h
  split at h
  · obtain rfl := hx.int_
    obtain rfl := hy.int_
    have hg : ∀ k a, eqGuard op t ox oy (.int k a) = fun _ => pure () := fun k a => funext fun v => eqGuard_at_int op t ox oy v k a
    split at h
    · obtain ⟨cv, h1, h2⟩ := shift_rel (P := P) (c := c) (t := t) (.inl rfl) h
      exact ⟨cv, by simp [hg]; exact h1, h2⟩
    · obtain ⟨cv, h1, h2⟩ := shift_rel (P := P) (c := c) (t := t) (.inr rfl) h
      exact ⟨cv, by simp [hg]; exact h1, h2⟩
    · rename_i n1 n2
      split at h
      · rename_i e
        subst e
        obtain ⟨cv, h1, h2⟩ := int_rel (P := P) (c := c) (t := t) n1 n2 h
        exact ⟨cv, by simp [hg]; exact h1, h2⟩
      · cases h
  · obtain rfl := hx.str_
    obtain rfl := hy.str_
    obtain ⟨cv, h1, h2⟩ := strOp_rel (P := P) (c := c) (t := t) h
    exact ⟨cv, by simp [eqGuard_at_string]; exact h1, h2⟩
  · obtain rfl := hx.bool_
    obtain rfl := hy.bool_
    split at h
    · split at h
      · rename_i hu
        injection h with h; subst h
        have hu' : P.underlying t = some .bool := isBoolT_some hu
        refine ⟨_, ?_, VR.bool ..⟩
        simp [eqGuard_at_bool, binOp, Op.equal, Op.maxDepth, run_equalIn_bool _ 9999 t _ _ hu']
      · cases h
    · split at h
      · rename_i hu
        injection h with h; subst h
        have hu' : P.underlying t = some .bool := isBoolT_some hu
        refine ⟨_, ?_, VR.bool ..⟩
        simp [eqGuard_at_bool, binOp, Op.equal, Op.maxDepth, run_equalIn_bool _ 9999 t _ _ hu']
      · cases h
    · cases h
  · obtain ⟨vs, rfl, hl, hv, _⟩ := hx.agg_
    obtain ⟨us, rfl, hl', hv', _⟩ := hy.agg_
    have key : ∀ (l : List Leaf) (b : Bool), eqLeaves P t = some l → eqLeafs l _ _ = some b → P.eqGuardType P.depth t = false ∧ (Op.equalIn 10000 t (.agg vs) (.agg us)).run P c.w = .ok b c.w := fun l b hl1 hb => by
      unfold eqLeaves at hl1
      split at hl1
      · cases hl1
      · rename_i hg
        split at hl1
        · rename_i hag
          obtain ⟨hs, _, heq⟩ := leafs_rel (P := P) 20 t l hl1
          exact ⟨by simpa using hg, heq 10000 (by omega) c _ _ _ _ b c.w (.inl ⟨hag, vs, rfl, hl, hv⟩) (.inl ⟨hag, us, rfl, hl', hv'⟩) hb⟩
        · cases hl1
    split at h
    · cases hl1 : eqLeaves P t with
      | none => rw [hl1] at h; cases h
      | some l =>
        rw [hl1] at h
        simp only [Option.bind_some] at h
        cases hb : eqLeafs l _ _ with
        | none => rw [hb] at h; cases h
        | some b =>
          rw [hb] at h
          simp only [Option.map_some] at h
          injection h with h; subst h
          obtain ⟨k1, k2⟩ := key l b hl1 hb
          refine ⟨_, ?_, VR.bool ..⟩
          simp [eqGuard_agg k1, run_eql_struct, k2]
    · cases hl1 : eqLeaves P t with
      | none => rw [hl1] at h; cases h
      | some l =>
        rw [hl1] at h
        simp only [Option.bind_some] at h
        cases hb : eqLeafs l _ _ with
        | none => rw [hb] at h; cases h
        | some b =>
          rw [hb] at h
          simp only [Option.map_some] at h
          injection h with h; subst h
          obtain ⟨k1, k2⟩ := key l b hl1 hb
          refine ⟨_, ?_, VR.bool ..⟩
          simp [eqGuard_agg k1, run_neq_struct, k2]
    · cases h
  · have hy0 : yv = .slice none 0 0 := by
      cases hy with
      | data _ _ hp => cases hp; rfl
    subst hy0
    split at h
    · split at h
      · rename_i hu
        cases hn : nilA x with
        | none => rw [hn] at h; cases h
        | some b =>
          rw [hn] at h
          injection h with h; subst h
          obtain ⟨k1, A, n, cap, rfl⟩ := nil_key hx hn hu
          refine ⟨_, ?_, VR.bool ..⟩
          simp [eqGuard, binOp, Op.equal, Op.maxDepth, k1]
      · cases h
    · split at h
      · rename_i hu
        cases hn : nilA x with
        | none => rw [hn] at h; cases h
        | some b =>
          rw [hn] at h
          injection h with h; subst h
          obtain ⟨k1, A, n, cap, rfl⟩ := nil_key hx hn hu
          refine ⟨_, ?_, VR.bool ..⟩
          simp [eqGuard, binOp, Op.equal, Op.maxDepth, k1]
      · cases h
    · cases h
  · cases h
end

end Go.Proofs.YtpmjpogcaglphaaDoor.A
/- A, part 8: operations that look into memory, make it, write it. -/
namespace Go.Proofs.YtpmjpogcaglphaaDoor.A
open Go

/-- What a piece of the machine does: it answers what is related to v, and leaves the heap Ho. -/
def Does (P : Program) (c : Ctx) (N : Tag → Prop) (s : Sem Value) (v : AV) (Ho : Tag → Option AObj) : Prop :=
  ∃ cv c', s.run P c.w = .ok cv c'.w ∧ Inv c' ∧ Step c c' ∧ c'.H = Ho ∧ (∀ t, c'.T t → c.T t ∨ N t) ∧ VR c' v cv
def DoesU (P : Program) (c : Ctx) (N : Tag → Prop) (s : Sem Unit) (Ho : Tag → Option AObj) : Prop :=
  ∃ c', s.run P c.w = .ok () c'.w ∧ Inv c' ∧ Step c c' ∧ c'.H = Ho ∧ (∀ t, c'.T t → c.T t ∨ N t)

section
variable {P : Program} {c : Ctx} {N : Tag → Prop}
theorem Says.does (hI : Inv c) {s : Sem Value} {v : AV} {Ho : Tag → Option AObj} (h : Says P c s v) (hH : c.H = Ho) : Does P c N s v Ho := by
  obtain ⟨cv, h1, h2⟩ := h
  exact ⟨cv, c, h1, hI, Step.refl c, hH, fun t ht => .inl ht, h2⟩

theorem asI_rel {x : AV} {i : Int} {v : Value} (hx : VR c x v) (h : asI x = some i) : v = .int .i64 i := by
  unfold asI at h
  split at h
  · injection h with h; subst h; exact hx.int_
  · cases h

theorem tField_some {t : TypeId} {f o : Nat} {ft : TypeId} (h : tField P t f = some (o, ft)) : ∃ fs x, P.underlying t = some (.struct fs) ∧ fs[f]? = some x ∧ x.offset = o ∧ x.type = ft := by
  unfold tField at h
  split at h
  · rename_i fs hu
    cases hf : fs[f]? with
    | none => rw [hf] at h; cases h
    | some x => rw [hf] at h; simp at h; exact ⟨fs, x, hu, hf, h.1, h.2⟩
  · cases h
theorem tSizeD_run {t : TypeId} (h : (tSize P t).getD 0 ≠ 0) (w : World) : ∃ n, n ≠ 0 ∧ (sizeOf t).run P w = .ok n w := by
  cases hs : tSize P t with
  | none => rw [hs] at h; exact absurd rfl h
  | some n => rw [hs] at h; exact ⟨n, h, tSize_run hs w⟩
theorem fieldAt_run {t : TypeId} {f o : Nat} {ft : TypeId} (h : tField P t f = some (o, ft)) (hz : (tSize P ft).getD 0 ≠ 0) (a : Addr) (w : World) : (Instr.fieldAt t (.pointer (some a)) f).run P w = .ok (.pointer (some (a.add o))) w := by
  obtain ⟨fs, x, hu, hf, rfl, rfl⟩ := tField_some h
  obtain ⟨n, hn, hs⟩ := tSizeD_run hz w
  simp [Instr.fieldAt, run_underlying hu, hf, Instr.sureAddr, fieldPlace, hs, hn]

theorem fptr_drop {cs : List AV} {a : Addr} {o : Nat} (h : VR c (.fptr cs) (.pointer (some a))) : VR c (.fptr (cs.drop o)) (.pointer (some (a.add o))) := by
  obtain ⟨a', e, hS, hc⟩ := h.fptr_
  injection e with e
  injection e with e
  subst e
  have hex : ∀ j, ∃ u : Value, ∀ x, (cs.drop o)[j]? = some x → c.w.cell? ((a.add o).add j) = some u ∧ u.oneCell' = true ∧ PR c.S c.w x u := fun j => by
    rw [List.getElem?_drop]
    cases hx : cs[o + j]? with
    | none => exact ⟨undef, fun x h => by cases h⟩
    | some x =>
      obtain ⟨u, h1, h2, h3⟩ := hc _ x hx
      refine ⟨u, fun y hy => ?_⟩
      injection hy with hy
      subst hy
      rw [add_add]
      exact ⟨h1, h2, h3⟩
  obtain ⟨u, hu⟩ := Classical.axiomOfChoice hex
  refine .data _ _ (.fptr _ _ u (fun hne => ?_) (fun j x hx => (hu j x hx).1) (fun j x hx => (hu j x hx).2.1) (fun j x hx => (hu j x hx).2.2))
  rw [add_block]
  refine hS fun e => hne ?_
  rw [e]; simp

theorem fieldAddr_rel {t : TypeId} {f : Nat} {x v : AV} {xv : Value} {H : AH} {r : AV × AH} (hx : VR c x xv)
    (h : (match some x, tField P t f with
      | some (.ptr k g off), some (o', ft) => if (tSize P ft).getD 0 = 0 then none else some (AV.ptr k g (off + o'), H)
      | some (.fptr cs), some (o', ft) => if (tSize P ft).getD 0 = 0 then none else some (.fptr (cs.drop o'), H)
      | _, _ => none) = some r) : Says P c (Instr.fieldAt t xv f) r.1 ∧ r.2 = H := by
  split at h
  · rename_i k g off o' ft e hf
    injection e with e
    subst e
    split at h
    · cases h
    · rename_i hz
      injection h with h; subst h
      obtain ⟨hk, hg, a, rfl, ha⟩ := hx.ptr_
      refine ⟨⟨_, fieldAt_run hf hz a c.w, .ptr k g _ _ hk hg fun r hr hgen => ?_⟩, rfl⟩
      have := ha r (by unfold aRow; rw [hr]; simp [hgen])
      rw [this, plain_add]
  · rename_i cs o' ft e hf
    injection e with e
    subst e
    split at h
    · cases h
    · rename_i hz
      injection h with h; subst h
      obtain ⟨a, rfl, _⟩ := hx.fptr_
      exact ⟨⟨_, fieldAt_run hf hz a c.w, fptr_drop hx⟩, rfl⟩
  · cases h

theorem tElem_some {t e : TypeId} (h : tElem P t = some e) : P.underlying t = some (.slice e) := by
  unfold tElem at h
  split at h
  · rename_i hu; injection h with h; subst h; exact hu
  · cases h
theorem tArray_some {t e : TypeId} {n : Nat} (h : tArray P t = some (n, e)) : P.underlying t = some (.array n e) := by
  unfold tArray at h
  split at h
  · rename_i hu; injection h with h; injection h with h1 h2; subst h1; subst h2; exact hu
  · cases h
theorem elemSize {t : TypeId} {s : Nat} (h : (tElem P t).bind (tSize P) = some s) : ∃ e, P.underlying t = some (.slice e) ∧ tSize P e = some s := by
  cases he : tElem P t with
  | none => rw [he] at h; cases h
  | some e => rw [he] at h; exact ⟨e, tElem_some he, h⟩

theorem indexSlice_run {t e : TypeId} {s : Nat} (hu : P.underlying t = some (.slice e)) (hs : tSize P e = some s) (a : Addr) (n cap : Nat) (i : Int) (h0 : 0 ≤ i) (h1 : i < n) (w : World) :
    (Instr.indexAt t (.slice (some a) n cap) (.int .i64 i)).run P w = .ok (.pointer (some (a.add (i.toNat * s)))) w := by
  simp [Instr.indexAt, asIntOf, run_underlying hu, h0, h1, tSize_run hs]
theorem indexArray_run {t e : TypeId} {s n : Nat} (hu : P.underlying t = some (.array n e)) (hs : tSize P e = some s) (a : Addr) (i : Int) (h0 : 0 ≤ i) (h1 : i < n) (w : World) :
    (Instr.indexAt t (.pointer (some a)) (.int .i64 i)).run P w = .ok (.pointer (some (a.add (i.toNat * s)))) w := by
  simp [Instr.indexAt, asIntOf, run_underlying hu, h0, h1, tSize_run hs, Instr.sureAddr]

theorem indexAddr_rel {t : TypeId} {x v : AV} {i : Int} {xv : Value} (hx : VR c x xv) (h : aIndexAddr P t x i = some v) : Says P c (Instr.indexAt t xv (.int .i64 i)) v := by
  unfold aIndexAddr at h
  split at h
  · rename_i n cs
    split at h
    · rename_i s hs
      split at h
      · rename_i hb
        injection h with h; subst h
        obtain ⟨e, hu, hs'⟩ := elemSize hs
        obtain ⟨A, cap, rfl, hn, hA0, hA, hc⟩ := hx.sl_
        by_cases hne : cs = []
        · subst hne
          obtain ⟨a, rfl⟩ := hA0 (by omega)
          exact ⟨_, indexSlice_run hu hs' a n cap i hb.1 hb.2 c.w, .data _ _ (.fptr _ _ (fun _ => undef) (fun hh => by simp at hh) (fun j x hx => by simp at hx) (fun j x hx => by simp at hx) (fun j x hx => by simp at hx))⟩
        · obtain ⟨a, rfl, hSa⟩ := hA hne
          have hf : VR c (.fptr cs) (.pointer (some a)) := by
            have hex : ∀ j, ∃ u : Value, ∀ x, cs[j]? = some x → c.w.cell? (a.add j) = some u ∧ u.oneCell' = true ∧ PR c.S c.w x u := fun j => by
              cases hx : cs[j]? with
              | none => exact ⟨undef, fun x h => by cases h⟩
              | some x =>
                obtain ⟨u, h1⟩ := hc a _ x rfl hx
                exact ⟨u, fun y hy => by injection hy with hy; subst hy; exact h1⟩
            obtain ⟨u, hu'⟩ := Classical.axiomOfChoice hex
            exact .data _ _ (.fptr _ _ u (fun _ => hSa) (fun j x hx => (hu' j x hx).1) (fun j x hx => (hu' j x hx).2.1) (fun j x hx => (hu' j x hx).2.2))
          exact ⟨_, indexSlice_run hu hs' a n cap i hb.1 hb.2 c.w, fptr_drop hf⟩
      · cases h
    · cases h
  · rename_i k g off n
    split at h
    · rename_i s hs
      split at h
      · rename_i hb
        injection h with h; subst h
        obtain ⟨e, hu, hs'⟩ := elemSize hs
        obtain ⟨hk, hg, A, cap, rfl, hn, hA, hr⟩ := hx.ref_
        obtain ⟨a, rfl⟩ := hA (.inr (by omega))
        refine ⟨_, indexSlice_run hu hs' a n cap i hb.1 hb.2 c.w, .ptr k g _ _ hk hg fun r hr' hgen => ?_⟩
        obtain ⟨hh, _⟩ := hr r (by unfold aRow; rw [hr']; simp [hgen])
        have := hh (.inr (by omega))
        injection this with this
        rw [this, plain_add]
      · cases h
    · cases h
  · rename_i cs
    split at h
    · rename_i n e ha
      split at h
      · rename_i s hs
        split at h
        · rename_i hb
          injection h with h; subst h
          obtain ⟨a, rfl, _⟩ := hx.fptr_
          exact ⟨_, indexArray_run (tArray_some ha) hs a i hb.1 hb.2 c.w, fptr_drop hx⟩
        · cases h
      · cases h
    · cases h
  · rename_i k g off
    split at h
    · rename_i n e ha
      split at h
      · rename_i s hs
        split at h
        · rename_i hb
          injection h with h; subst h
          obtain ⟨hk, hg, a, rfl, hr⟩ := hx.ptr_
          refine ⟨_, indexArray_run (tArray_some ha) hs a i hb.1 hb.2 c.w, .ptr k g _ _ hk hg fun r hr' hgen => ?_⟩
          rw [hr r (by unfold aRow; rw [hr']; simp [hgen]), plain_add]
        · cases h
      · cases h
    · cases h
  · cases h
end

end Go.Proofs.YtpmjpogcaglphaaDoor.A
