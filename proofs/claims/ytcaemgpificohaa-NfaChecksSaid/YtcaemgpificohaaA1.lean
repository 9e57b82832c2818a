/- A, part 1: abstract values, the abstract heap, and what each operation does to them. No theorem about the machine stands here. -/
import Derived.Calls
import Derived.Orders
import Derived.Laws.Sem
set_option linter.unusedVariables false
set_option linter.unusedSimpArgs false
set_option linter.unnecessarySimpa false
namespace Go.Proofs.Ytcaemgpificohaa.A
open Go

/-- A thing's name: the round of the region that made it, the slot that it was put into. -/
abbrev Tag := Nat × Nat

inductive AV where
  | und
  | bool (b : Bool)
  | int (k : IntKind) (n : Int)
  | str (s : List UInt8)
  | agg (cs : List AV)
  | tup (vs : List AV)
  | nil
  | sl (n : Nat) (cs : List AV)
  | fptr (cs : List AV)
  | ref (k g : Tag) (off n : Nat)
  | ptr (k g : Tag) (off : Nat)
  | fn (f : Fn) (first captured : List AV)
  | mp (k : Tag)
  | nilmp

instance : Inhabited AV := ⟨.und⟩

structure Row where
  elem : TypeId
  sz : Nat
  gen : Tag
  ro : Bool
  plain : Bool
  cs : List AV

inductive AObj where
  | row (r : Row)
  | map (es : List (AV × AV))

structure AH where
  o : Tag → Option AObj
  nx : Nat

def upd (o : Tag → Option AObj) (t : Tag) (x : AObj) : Tag → Option AObj := fun u => if u = t then some x else o u
theorem upd_same (o : Tag → Option AObj) (t : Tag) (x : AObj) : upd o t x t = some x := if_pos rfl
theorem upd_ne (o : Tag → Option AObj) (t u : Tag) (x : AObj) (h : u ≠ t) : upd o t x u = o u := if_neg h

abbrev AAct := Nat → AV
def put (a : AAct) (t : Nat) (v : AV) : AAct := fun u => if u = t then v else a u
theorem put_same (a : AAct) (t : Nat) (v : AV) : put a t v t = v := if_pos rfl
theorem put_ne (a : AAct) (t u : Nat) (v : AV) (h : u ≠ t) : put a t v u = a u := if_neg h
def putO (a : AAct) (d : Option Nat) (v : AV) : AAct := match d with | some t => put a t v | none => a

abbrev noV : AV := .tup []

def isStr : Option TypeDesc → Bool
  | some .string => true
  | _ => false
def isBoolT : Option TypeDesc → Bool
  | some .bool => true
  | _ => false
def isIntT : Option TypeDesc → Bool
  | some (.int _) => true
  | _ => false
theorem isStr_some {d : Option TypeDesc} (h : isStr d = true) : d = some .string := by
  unfold isStr at h
  split at h
  · rfl
  · cases h
theorem isBoolT_some {d : Option TypeDesc} (h : isBoolT d = true) : d = some .bool := by
  unfold isBoolT at h
  split at h
  · rfl
  · cases h
theorem isIntT_some {d : Option TypeDesc} (h : isIntT d = true) : ∃ k, d = some (.int k) := by
  unfold isIntT at h
  split at h
  · exact ⟨_, rfl⟩
  · cases h

/-! ### constants, types -/
def ofCell : Value → Option AV
  | .bool b => some (.bool b)
  | .int k n => some (.int k n)
  | .string s => some (.str s.data.toList)
  | .slice none 0 0 => some .nil
  | .map none => some .nilmp
  | .func f first captured => if first.size = 0 ∧ captured.size = 0 then some (.fn f [] []) else none
  | _ => none
def ofCells : List Value → Option (List AV)
  | [] => some []
  | v :: vs => match ofCell v, ofCells vs with
    | some x, some xs => some (x :: xs)
    | _, _ => none
def ofConst : Value → Option AV
  | .agg cs => (ofCells cs.toList).map .agg
  | .tuple vs => if vs.size = 0 then some (.tup []) else none
  | v => ofCell v

section
variable (P : Program)
def tSize (t : TypeId) : Option Nat := (P.info? t).map (·.size)
def tBytes (t : TypeId) : Option Nat := (P.info? t).map (·.bytes)
def tAgg (t : TypeId) : Option Bool :=
  match P.underlying t with
  | some (.struct _) | some (.array _ _) => some true
  | some _ => some false
  | none => none
def tElem (t : TypeId) : Option TypeId :=
  match P.underlying t with
  | some (.slice e) => some e
  | _ => none
/-- A type's zero, as cells. -/
def tZero (t : TypeId) : Option (List AV) :=
  match (P.info? t).bind (·.zero) with
  | some v => ofCells v.cells.toList
  | none => none
/-- A struct's field: where it begins, its type. -/
def tField (t : TypeId) (f : Nat) : Option (Nat × TypeId) :=
  match P.underlying t with
  | some (.struct fs) => (fs[f]?).map fun x => (x.offset, x.type)
  | _ => none
def tArray (t : TypeId) : Option (Nat × TypeId) :=
  match P.underlying t with
  | some (.array n e) => some (n, e)
  | _ => none
end

/-! ### reading and writing cells -/
def AV.cells : AV → List AV
  | .agg cs => cs
  | v => [v]
/-- A value of a type out of a run of cells. -/
def take1 (isAgg : Bool) (size : Nat) (cs : List AV) : Option AV :=
  match isAgg with
  | true => if size ≤ cs.length then some (.agg (cs.take size)) else none
  | false => match cs with
    | x :: _ => some x
    | [] => none
def takeT (P : Program) (t : TypeId) (cs : List AV) : Option AV :=
  match tAgg P t, tSize P t with
  | some b, some n => take1 b n cs
  | _, _ => none
def splice (cs : List AV) (off : Nat) (new : List AV) : List AV := cs.take off ++ new ++ cs.drop (off + new.length)
/-- May these be stored as cells? -/
def cellOk : AV → Bool
  | .und | .agg _ | .tup _ => false
  | _ => true

def aRow (o : Tag → Option AObj) (k g : Tag) : Option Row :=
  match o k with
  | some (.row r) => if r.gen = g then some r else none
  | _ => none

/-! ### whole numbers, strings, equality -/
def aBits (op : BinOp) (k : IntKind) (x y : Int) : Option AV :=
  let a := BitVec.ofInt k.bits x
  let b := BitVec.ofInt k.bits y
  match op with
  | .and => some (.int k (k.wrap (a &&& b).toNat))
  | .or => some (.int k (k.wrap (a ||| b).toNat))
  | .xor => some (.int k (k.wrap (a ^^^ b).toNat))
  | .andNot => some (.int k (k.wrap (a &&& ~~~b).toNat))
  | _ => none
def aInt (op : BinOp) (k : IntKind) (x y : Int) : Option AV :=
  match op with
  | .add => some (.int k (k.wrap (x + y)))
  | .sub => some (.int k (k.wrap (x - y)))
  | .mul => some (.int k (k.wrap (x * y)))
  | .quo => if y = 0 then none else some (.int k (k.wrap (x.tdiv y)))
  | .rem => if y = 0 then none else some (.int k (x.tmod y))
  | .and => aBits .and k x y
  | .or => aBits .or k x y
  | .xor => aBits .xor k x y
  | .andNot => aBits .andNot k x y
  | .eql => some (.bool (x == y))
  | .neq => some (.bool (x != y))
  | .lss => some (.bool (decide (x < y)))
  | .leq => some (.bool (decide (x ≤ y)))
  | .gtr => some (.bool (decide (y < x)))
  | .geq => some (.bool (decide (y ≤ x)))
  | _ => none
def aShift (op : BinOp) (k : IntKind) (x y : Int) : Option AV :=
  if y < 0 then none else
  match op with
  | .shl => some (.int k (k.wrap (x * 2 ^ (min y.toNat k.bits))))
  | .shr => some (.int k (x.fdiv (2 ^ (min y.toNat k.bits))))
  | _ => none
def aStr (op : BinOp) (x y : List UInt8) : Option AV :=
  match op with
  | .add => if x.length + y.length ≤ 9223372036854775807 then some (.str (x ++ y)) else none
  | .eql => some (.bool (x == y))
  | .neq => some (.bool (!(x == y)))
  | .lss => some (.bool (Op.bytesLess x y))
  | .leq => some (.bool (Op.bytesLess x y || x == y))
  | .gtr => some (.bool (!(Op.bytesLess x y || x == y)))
  | .geq => some (.bool (!Op.bytesLess x y))
  | _ => none
inductive Leaf where
  | int | bool | str
def eqLeaf : Leaf → AV → AV → Option Bool
  | .int, .int k a, .int k' b => if k = k' then some (a == b) else none
  | .bool, .bool a, .bool b => some (a == b)
  | .str, .str a, .str b => some (a == b)
  | _, _, _ => none
def eqLeafs : List Leaf → List AV → List AV → Option Bool
  | [], [], [] => some true
  | l :: ls, x :: xs, y :: ys => match eqLeaf l x y, eqLeafs ls xs ys with
    | some a, some b => some (a && b)
    | _, _ => none
  | _, _, _ => none
def reps {α : Type} (l : List α) : Nat → List α
  | 0 => []
  | n + 1 => l ++ reps l n
/-- Types whose '==' is that of their cells, one by one: what their cells are. -/
def leafs (P : Program) : Nat → TypeId → Option (List Leaf)
  | 0, _ => none
  | d + 1, t =>
    match P.underlying t with
    | some .bool => if tSize P t = some 1 then some [.bool] else none
    | some (.int _) => if tSize P t = some 1 then some [.int] else none
    | some .string => if tSize P t = some 1 then some [.str] else none
    | some (.array n e) => match leafs P d e with
      | some l => if tSize P e = some l.length ∧ tSize P t = some (n * l.length) then some (reps l n) else none
      | none => none
    | some (.struct fs) => if P.stoodInHeld t then none else match fieldLeafs (leafs P d) (tSize P) fs.toList 0 with
      | some l => if tSize P t = some l.length then some l else none
      | none => none
    | _ => none
where
  fieldLeafs (f : TypeId → Option (List Leaf)) (size : TypeId → Option Nat) : List Field → Nat → Option (List Leaf)
    | [], _ => some []
    | x :: fs, off => match f x.type with
      | some l => if x.name ≠ "_" ∧ x.offset = off ∧ size x.type = some l.length then (fieldLeafs f size fs (off + l.length)).map (l ++ ·) else none
      | none => none
def eqLeaves (P : Program) (t : TypeId) : Option (List Leaf) := if P.eqGuardType P.depth t then none else if tAgg P t = some true then leafs P 20 t else none

def aBin (P : Program) (op : BinOp) (t : TypeId) (x y : AV) : Option AV :=
  match x, y with
  | .int k a, .int k' b =>
    match op with
    | .shl => aShift .shl k a b
    | .shr => aShift .shr k a b
    | _ => if k = k' then aInt op k a b else none
  | .str a, .str b => aStr op a b
  | .bool a, .bool b =>
    match op with
    | .eql => if isBoolT (P.underlying t) then some (.bool (a == b)) else none
    | .neq => if isBoolT (P.underlying t) then some (.bool (!(a == b))) else none
    | _ => none
  | .agg a, .agg b =>
    match op with
    | .eql => (eqLeaves P t).bind fun l => (eqLeafs l a b).map .bool
    | .neq => (eqLeaves P t).bind fun l => (eqLeafs l a b).map fun z => .bool (!z)
    | _ => none
  | _, _ => none
def aUn (op : UnOp) (x : AV) : Option AV :=
  match op, x with
  | .neg, .int k n => some (.int k (k.wrap (0 - n)))
  | .xor, .int k n => aBits .xor k (if k.signed then -1 else k.max) n
  | .not, .bool b => some (.bool (!b))
  | _, _ => none

/-! ### slices -/
/-- A slice of what is read: its length, its cells. -/
def sliceCells (o : Tag → Option AObj) : AV → Option (Nat × List AV)
  | .nil => some (0, [])
  | .sl n cs => some (n, cs)
  | .ref k g off n => match aRow o k g with
    | some r => some (n, (r.cs.drop off).take (n * r.sz))
    | none => none
  | _ => none
def asI : AV → Option Int
  | .int .i64 n => some n
  | _ => none
def aIndexAddr (P : Program) (t : TypeId) (x : AV) (i : Int) : Option AV :=
  match x with
  | .sl n cs => match (tElem P t).bind (tSize P) with
    | some s => if 0 ≤ i ∧ i < n then some (.fptr (cs.drop (i.toNat * s))) else none
    | none => none
  | .ref k g off n => match (tElem P t).bind (tSize P) with
    | some s => if 0 ≤ i ∧ i < n then some (.ptr k g (off + i.toNat * s)) else none
    | none => none
  | .fptr cs => match tArray P t with
    | some (n, e) => match tSize P e with
      | some s => if 0 ≤ i ∧ i < n then some (.fptr (cs.drop (i.toNat * s))) else none
      | none => none
    | none => none
  | .ptr k g off => match tArray P t with
    | some (n, e) => match tSize P e with
      | some s => if 0 ≤ i ∧ i < n then some (.ptr k g (off + i.toNat * s)) else none
      | none => none
    | none => none
  | _ => none
def aIndex (P : Program) (t : TypeId) (x : AV) (i : Int) : Option AV :=
  match x with
  | .agg cs => match tArray P t with
    | some (n, e) => match tSize P e with
      | some s => if 0 ≤ i ∧ i < n then takeT P e (cs.drop (i.toNat * s)) else none
      | none => none
    | none => none
  | .str s => if isStr (P.underlying t) then (if 0 ≤ i then (s[i.toNat]?).map fun b => .int .u8 b.toNat else none) else none
  | _ => none
/-- x[lo:hi], no bound beyond what is there. -/
def aSlice (P : Program) (t : TypeId) (x : AV) (lo hi : Option Int) : Option AV :=
  let l := lo.getD 0
  match x with
  | .str s =>
    let h := hi.getD s.length
    if isStr (P.underlying t) = true ∧ 0 ≤ l ∧ l ≤ h ∧ h ≤ s.length then some (.str ((s.take h.toNat).drop l.toNat)) else none
  | .nil =>
    let h := hi.getD 0
    if ((tElem P t).bind (tSize P)).isSome ∧ l = 0 ∧ h = 0 then some .nil else none
  | .sl n cs =>
    let h := hi.getD n
    match (tElem P t).bind (tSize P) with
    | some s => if 0 ≤ l ∧ l ≤ h ∧ h ≤ n then some (.sl (h.toNat - l.toNat) ((cs.take (h.toNat * s)).drop (l.toNat * s))) else none
    | none => none
  | .ref k g off n =>
    let h := hi.getD n
    match (tElem P t).bind (tSize P) with
    | some s => if 0 < s ∧ 0 ≤ l ∧ l ≤ h ∧ h ≤ n then some (.ref k g (off + l.toNat * s) (h.toNat - l.toNat)) else none
    | none => none
  | _ => none
/-- What is appended, or copied: its length in elements, its cells. -/
def srcOf (o : Tag → Option AObj) (x : AV) : Option (Nat × List AV) :=
  match x with
  | .str s => some (s.length, s.map fun b => .int .u8 b.toNat)
  | x => sliceCells o x
def rep (z : List AV) : Nat → List AV
  | 0 => []
  | n + 1 => z ++ rep z n

/-! ### what is handed to a function that only reads -/
/-- What is data already, or nothing that can be told. -/
def view0 : AV → AV
  | .bool b => .bool b
  | .int k n => .int k n
  | .str s => .str s
  | .nil => .sl 0 []
  | .sl n cs => .sl n cs
  | .fptr cs => .fptr cs
  | .nilmp => .nilmp
  | _ => .und
def view (o : Tag → Option AObj) : Nat → AV → AV
  | 0, v => view0 v
  | d + 1, v => match v with
    | .agg cs => .agg (cs.map (view o d))
    | .tup vs => .tup (vs.map (view o d))
    | .fn f first captured => .fn f (first.map (view o d)) (captured.map (view o d))
    | .ref k g off n => match aRow o k g with
      | some r => if off + n * r.sz ≤ r.cs.length then .sl n (((r.cs.drop off).take (n * r.sz)).map (view o d)) else .und
      | none => .und
    | v => view0 v
def viewTags (o : Tag → Option AObj) : Nat → AV → List Tag
  | 0, _ => []
  | d + 1, v => match v with
    | .agg cs => cs.flatMap (viewTags o d)
    | .tup vs => vs.flatMap (viewTags o d)
    | .fn _ first captured => first.flatMap (viewTags o d) ++ captured.flatMap (viewTags o d)
    | .ref k g off n => match aRow o k g with
      | some r => k :: (((r.cs.drop off).take (n * r.sz)).flatMap (viewTags o d))
      | none => [k]
    | _ => []
/-- Nothing in it leads to memory. -/
def flat : AV → Bool
  | .bool _ | .int _ _ | .str _ => true
  | .agg cs => flats cs
  | .tup vs => flats vs
  | _ => false
where
  flats : List AV → Bool
    | [] => true
    | x :: xs => flat x && flats xs
def sealed (ts : List Tag) (o : Tag → Option AObj) : Tag → Option AObj := fun t =>
  match o t with
  | some (.row r) => if ts.contains t then some (.row { r with ro := true }) else some (.row r)
  | x => x
def vDepth : Nat := 12

end Go.Proofs.Ytcaemgpificohaa.A
