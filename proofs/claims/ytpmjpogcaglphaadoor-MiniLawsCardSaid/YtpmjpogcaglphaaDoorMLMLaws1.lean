/- A, part 1: abstract values, the abstract heap, and what each operation does to them. No theorem about the machine stands here. -/
import Derived.Calls
import Derived.Orders
import Derived.Laws.Sem
import Derived.Scope
import Derived.Below
import Derived.Lib.LaidTab
import Derived.Lib.ItoaNum
import Derived.Laws.AppendOwn
import Derived.Laws.Cells
import Derived.Laws.Entries
import Derived.Laws.CopyRow
import Derived.Laws.NewFold
import Derived.Laws.StructEq
import Derived.ChangeKeysEq
import Derived.Laws.Strings
import Derived.Laws.Concat
import Derived.Laws.Append
import Derived.Laws.MakeOwn
import Derived.Laws.Slices
import Derived.Laws.Strings2
import Derived.Laws.BytesArg
import Derived.Laws.IdiomStrings
import Derived.MapKept
import Derived.Laws.BytesString
set_option linter.unusedVariables false
set_option linter.unusedSimpArgs false
set_option linter.unnecessarySimpa false
namespace Go.Proofs.YtpmjpogcaglphaaDoor.A
open Go
abbrev Tag := Nat × Nat
inductive AV where
 | und
 | bool (b : Bool)
 | int (k : IntKind) (n : Int)
 | str (s : List UInt8)
 | agg (cs : List AV)
 | tup (vs : List AV)
 | nil
 | sl (n : Nat) (cs : List AV)
 | fptr (cs : List AV)
 | ref (k g : Tag) (off n : Nat)
 | ptr (k g : Tag) (off : Nat)
 | fn (f : Fn) (first captured : List AV)
 | mp (k : Tag)
 | nilmp
 | nilp
instance : Inhabited AV := ⟨.und⟩
structure Row where
 elem : TypeId
 sz : Nat
 gen : Tag
 ro : Bool
 plain : Bool
 cs : List AV
inductive AObj where
 | row (r : Row)
 | map (es : List (AV × AV))
structure AH where
 o : Tag → Option AObj
 nx : Nat
def upd (o : Tag → Option AObj) (t : Tag) (x : AObj) : Tag → Option AObj := fun u => if u = t then some x else o u
theorem f8 (o : Tag → Option AObj) (t : Tag) (x : AObj) : upd o t x t = some x := if_pos rfl
theorem B9 (o : Tag → Option AObj) (t u : Tag) (x : AObj) (h : u ≠ t) : upd o t x u = o u := if_neg h
abbrev n8 := Nat → AV
def put (a : n8) (t : Nat) (v : AV) : n8 := fun u => if u = t then v else a u
theorem bx6 (a : n8) (t : Nat) (v : AV) : put a t v t = v := if_pos rfl
theorem bK0 (a : n8) (t u : Nat) (v : AV) (h : u ≠ t) : put a t v u = a u := if_neg h
def J7 (a : n8) (d : Option Nat) (v : AV) : n8 := match d with | some t => put a t v | none => a
abbrev noV : AV := .tup []
def ar5 : Option TypeDesc → Bool
 | some .string => true
 | _ => false
def ak4 : Option TypeDesc → Bool
 | some .bool => true
 | _ => false
theorem ad5 {d : Option TypeDesc} (h : ar5 d = true) : d = some .string := by
 unfold ar5 at h
 split at h
 ·rfl
 ·cases h
theorem ag2 {d : Option TypeDesc} (h : ak4 d = true) : d = some .bool := by
 unfold ak4 at h
 split at h
 ·rfl
 ·cases h
def aC5 : Value → Option AV
 | .bool b => some (.bool b)
 | .int k n => some (.int k n)
 | .string s => some (.str s.data.toList)
 | .slice none 0 0 => some .nil
 | .map none => some .nilmp
 | .pointer none => some .nilp
 | .func f first captured => if first.size = 0 ∧ captured.size = 0 then some (.fn f [] []) else none
 | _ => none
def N3 : List Value → Option (List AV)
 | [] => some []
 | v :: vs => match aC5 v, N3 vs with
  | some x, some xs => some (x :: xs)
  | _, _ => none
def aK1 : Value → Option AV
 | .agg cs => (N3 cs.toList).map .agg
 | .tuple vs => if vs.size = 0 then some (.tup []) else none
 | v => aC5 v
section
variable (P : Program)
def l9 (t : TypeId) : Option Nat := (P.info? t).map (·.size)
def ag3 (t : TypeId) : Option Nat := (P.info? t).map (·.bytes)
def G9 (t : TypeId) : Option Bool :=
 match P.underlying t with
 | some (.struct _) | some (.array _ _) => some true
 | some _ => some false
 | none => none
def E7 (t : TypeId) : Option TypeId :=
 match P.underlying t with
 | some (.slice e) => some e
 | _ => none
def F8 (t : TypeId) : Option (List AV) :=
 match (P.info? t).bind (·.zero) with
 | some v => N3 v.cells.toList
 | none => none
def E9 (t : TypeId) (f : Nat) : Option (Nat × TypeId) :=
 match P.underlying t with
 | some (.struct fs) => (fs[f]?).map fun x => (x.offset, x.type)
 | _ => none
def ak5 (t : TypeId) : Option (Nat × TypeId) :=
 match P.underlying t with
 | some (.array n e) => some (n, e)
 | _ => none
end
def AV.cells : AV → List AV
 | .agg cs => cs
 | v => [v]
def M5 (isAgg : Bool) (size : Nat) (cs : List AV) : Option AV :=
 match isAgg with
 | true => if size ≤ cs.length then some (.agg (cs.take size)) else none
 | false => match cs with
  | x :: _ => some x
  | [] => none
def O4 (P : Program) (t : TypeId) (cs : List AV) : Option AV :=
 match G9 P t, l9 P t with
 | some b, some n => M5 b n cs
 | _, _ => none
def r8 (cs : List AV) (off : Nat) (new : List AV) : List AV := cs.take off ++ new ++ cs.drop (off + new.length)
def n9 : AV → Bool
 | .und | .agg _ | .tup _ => false
 | _ => true
def W7 (o : Tag → Option AObj) (k g : Tag) : Option Row :=
 match o k with
 | some (.row r) => if r.gen = g then some r else none
 | _ => none
def ak6 (op : BinOp) (k : IntKind) (x y : Int) : Option AV :=
 let a := BitVec.ofInt k.bits x
 let b := BitVec.ofInt k.bits y
 match op with
 | .and => some (.int k (k.wrap (a &&& b).toNat))
 | .or => some (.int k (k.wrap (a ||| b).toNat))
 | .xor => some (.int k (k.wrap (a ^^^ b).toNat))
 | .andNot => some (.int k (k.wrap (a &&& ~~~b).toNat))
 | _ => none
def aK0 (op : BinOp) (k : IntKind) (x y : Int) : Option AV :=
 match op with
 | .add => some (.int k (k.wrap (x + y)))
 | .sub => some (.int k (k.wrap (x - y)))
 | .mul => some (.int k (k.wrap (x * y)))
 | .quo => if y = 0 then none else some (.int k (k.wrap (x.tdiv y)))
 | .rem => if y = 0 then none else some (.int k (x.tmod y))
 | .and => ak6 .and k x y
 | .or => ak6 .or k x y
 | .xor => ak6 .xor k x y
 | .andNot => ak6 .andNot k x y
 | .eql => some (.bool (x == y))
 | .neq => some (.bool (x != y))
 | .lss => some (.bool (decide (x < y)))
 | .leq => some (.bool (decide (x ≤ y)))
 | .gtr => some (.bool (decide (y < x)))
 | .geq => some (.bool (decide (y ≤ x)))
 | _ => none
def ag4 (op : BinOp) (k : IntKind) (x y : Int) : Option AV :=
 if y < 0 then none else
 match op with
 | .shl => some (.int k (k.wrap (x * 2 ^ (min y.toNat k.bits))))
 | .shr => some (.int k (x.fdiv (2 ^ (min y.toNat k.bits))))
 | _ => none
def ca8 (op : BinOp) (x y : List UInt8) : Option AV :=
 match op with
 | .add => if x.length + y.length ≤ 9223372036854775807 then some (.str (x ++ y)) else none
 | .eql => some (.bool (x == y))
 | .neq => some (.bool (!(x == y)))
 | .lss => some (.bool (Op.bytesLess x y))
 | .leq => some (.bool (Op.bytesLess x y || x == y))
 | .gtr => some (.bool (!(Op.bytesLess x y || x == y)))
 | .geq => some (.bool (!Op.bytesLess x y))
 | _ => none
inductive Leaf where
 | int | bool | str
def as9 : Leaf → AV → AV → Option Bool
 | .int, .int k a, .int k' b => if k = k' then some (a == b) else none
 | .bool, .bool a, .bool b => some (a == b)
 | .str, .str a, .str b => some (a == b)
 | _, _, _ => none
def u7 : List Leaf → List AV → List AV → Option Bool
 | [], [], [] => some true
 | l :: ls, x :: xs, y :: ys => match as9 l x y, u7 ls xs ys with
  | some a, some b => some (a && b)
  | _, _ => none
 | _, _, _ => none
def bK1 {α : Type} (l : List α) : Nat → List α
 | 0 => []
 | n + 1 => l ++ bK1 l n
def ai4 (P : Program) : Nat → TypeId → Option (List Leaf)
 | 0, _ => none
 | d + 1, t =>
  match P.underlying t with
  | some .bool => if l9 P t = some 1 then some [.bool] else none
  | some (.int _) => if l9 P t = some 1 then some [.int] else none
  | some .string => if l9 P t = some 1 then some [.str] else none
  | some (.array n e) => match ai4 P d e with
   | some l => if l9 P e = some l.length ∧ l9 P t = some (n * l.length) then some (bK1 l n) else none
   | none => none
  | some (.struct fs) => if P.stoodInHeld t then none else match fieldLeafs (ai4 P d) (l9 P) fs.toList 0 with
   | some l => if l9 P t = some l.length then some l else none
   | none => none
  | _ => none
where
 fieldLeafs (f : TypeId → Option (List Leaf)) (size : TypeId → Option Nat) : List Field → Nat → Option (List Leaf)
  | [], _ => some []
  | x :: fs, off => match f x.type with
   | some l => if x.name ≠ "_" ∧ x.offset = off ∧ size x.type = some l.length then (fieldLeafs f size fs (off + l.length)).map (l ++ ·) else none
   | none => none
def D4 (P : Program) (t : TypeId) : Option (List Leaf) := if P.eqGuardType P.depth t then none else if G9 P t = some true then ai4 P 20 t else none
def aY7 : Option TypeDesc → Bool
 | some (.slice _) => true
 | _ => false
def bN2 : AV → Option Bool
 | .nil => some true
 | .sl n _ => if 0 < n then some false else none
 | .ref _ _ off n => if off = 0 ∨ 0 < n then some false else none
 | _ => none
def I1 (P : Program) (op : BinOp) (t : TypeId) (x y : AV) : Option AV :=
 match x, y with
 | .int k a, .int k' b =>
  match op with
  | .shl => ag4 .shl k a b
  | .shr => ag4 .shr k a b
  | _ => if k = k' then aK0 op k a b else none
 | .str a, .str b => ca8 op a b
 | .bool a, .bool b =>
  match op with
  | .eql => if ak4 (P.underlying t) then some (.bool (a == b)) else none
  | .neq => if ak4 (P.underlying t) then some (.bool (!(a == b))) else none
  | _ => none
 | .agg a, .agg b =>
  match op with
  | .eql => (D4 P t).bind fun l => (u7 l a b).map .bool
  | .neq => (D4 P t).bind fun l => (u7 l a b).map fun z => .bool (!z)
  | _ => none
 | x, .nil =>
  match op with
  | .eql => if aY7 (P.underlying t) then (bN2 x).map .bool else none
  | .neq => if aY7 (P.underlying t) then (bN2 x).map fun z => .bool (!z) else none
  | _ => none
 | _, _ => none
def aUn (op : UnOp) (x : AV) : Option AV :=
 match op, x with
 | .neg, .int k n => some (.int k (k.wrap (0 - n)))
 | .xor, .int k n => ak6 .xor k (if k.signed then -1 else k.max) n
 | .not, .bool b => some (.bool (!b))
 | _, _ => none
def z7 (o : Tag → Option AObj) : AV → Option (Nat × List AV)
 | .nil => some (0, [])
 | .sl n cs => some (n, cs)
 | .ref k g off n => match W7 o k g with
  | some r => some (n, (r.cs.drop off).take (n * r.sz))
  | none => none
 | _ => none
def asI : AV → Option Int
 | .int .i64 n => some n
 | _ => none
def j6 (P : Program) (t : TypeId) (x : AV) (i : Int) : Option AV :=
 match x with
 | .sl n cs => match (E7 P t).bind (l9 P) with
  | some s => if 0 ≤ i ∧ i < n then some (.fptr (cs.drop (i.toNat * s))) else none
  | none => none
 | .ref k g off n => match (E7 P t).bind (l9 P) with
  | some s => if 0 ≤ i ∧ i < n then some (.ptr k g (off + i.toNat * s)) else none
  | none => none
 | .fptr cs => match ak5 P t with
  | some (n, e) => match l9 P e with
   | some s => if 0 ≤ i ∧ i < n then some (.fptr (cs.drop (i.toNat * s))) else none
   | none => none
  | none => none
 | .ptr k g off => match ak5 P t with
  | some (n, e) => match l9 P e with
   | some s => if 0 ≤ i ∧ i < n then some (.ptr k g (off + i.toNat * s)) else none
   | none => none
  | none => none
 | _ => none
def R1 (P : Program) (t : TypeId) (x : AV) (i : Int) : Option AV :=
 match x with
 | .agg cs => match ak5 P t with
  | some (n, e) => match l9 P e with
   | some s => if 0 ≤ i ∧ i < n then O4 P e (cs.drop (i.toNat * s)) else none
   | none => none
  | none => none
 | .str s => if ar5 (P.underlying t) then (if 0 ≤ i then (s[i.toNat]?).map fun b => .int .u8 b.toNat else none) else none
 | _ => none
def R7 (P : Program) (t : TypeId) (x : AV) (lo hi : Option Int) : Option AV :=
 let l := lo.getD 0
 match x with
 | .str s =>
  let h := hi.getD s.length
  if ar5 (P.underlying t) = true ∧ 0 ≤ l ∧ l ≤ h ∧ h ≤ s.length then some (.str ((s.take h.toNat).drop l.toNat)) else none
 | .nil =>
  let h := hi.getD 0
  if ((E7 P t).bind (l9 P)).isSome ∧ l = 0 ∧ h = 0 then some .nil else none
 | .sl n cs =>
  let h := hi.getD n
  match (E7 P t).bind (l9 P) with
  | some s => if 0 ≤ l ∧ l ≤ h ∧ h ≤ n then some (.sl (h.toNat - l.toNat) ((cs.take (h.toNat * s)).drop (l.toNat * s))) else none
  | none => none
 | .ref k g off n =>
  let h := hi.getD n
  match (E7 P t).bind (l9 P) with
  | some s => if 0 < s ∧ 0 ≤ l ∧ l ≤ h ∧ h ≤ n then some (.ref k g (off + l.toNat * s) (h.toNat - l.toNat)) else none
  | none => none
 | _ => none
def D2 (o : Tag → Option AObj) (x : AV) : Option (Nat × List AV) :=
 match x with
 | .str s => some (s.length, s.map fun b => .int .u8 b.toNat)
 | x => z7 o x
def rep (z : List AV) : Nat → List AV
 | 0 => []
 | n + 1 => z ++ rep z n
def bN3 : AV → AV
 | .bool b => .bool b
 | .int k n => .int k n
 | .str s => .str s
 | .nil => .sl 0 []
 | .sl n cs => .sl n cs
 | .fptr cs => .fptr cs
 | .nilmp => .nilmp
 | .nilp => .nilp
 | _ => .und
def view (o : Tag → Option AObj) : Nat → AV → AV
 | 0, v => bN3 v
 | d + 1, v => match v with
  | .agg cs => .agg (cs.map (view o d))
  | .tup vs => .tup (vs.map (view o d))
  | .fn f first captured => .fn f (first.map (view o d)) (captured.map (view o d))
  | .ref k g off n => match W7 o k g with
   | some r => if off + n * r.sz ≤ r.cs.length then .sl n (((r.cs.drop off).take (n * r.sz)).map (view o d)) else .und
   | none => .und
  | .ptr k g off => match W7 o k g with
   | some r => .fptr ((r.cs.drop off).map (view o d))
   | none => .und
  | v => bN3 v
def b9 (o : Tag → Option AObj) : Nat → AV → List Tag
 | 0, _ => []
 | d + 1, v => match v with
  | .agg cs => cs.flatMap (b9 o d)
  | .tup vs => vs.flatMap (b9 o d)
  | .fn _ first captured => first.flatMap (b9 o d) ++ captured.flatMap (b9 o d)
  | .ref k g off n => match W7 o k g with
   | some r => k :: (((r.cs.drop off).take (n * r.sz)).flatMap (b9 o d))
   | none => [k]
  | .ptr k g off => match W7 o k g with
   | some r => k :: ((r.cs.drop off).flatMap (b9 o d))
   | none => [k]
  | _ => []
def flat : AV → Bool
 | .bool _ | .int _ _ | .str _ => true
 | .agg cs => flats cs
 | .tup vs => flats vs
 | _ => false
where
 flats : List AV → Bool
  | [] => true
  | x :: xs => flat x && flats xs
def C9 (ts : List Tag) (o : Tag → Option AObj) : Tag → Option AObj := fun t =>
 match o t with
 | some (.row r) => if ts.contains t then some (.row { r with ro := true }) else some (.row r)
 | x => x
def n6 : Nat := 1012
end Go.Proofs.YtpmjpogcaglphaaDoor.A
namespace Go.Proofs.YtpmjpogcaglphaaDoor.A
open Go
inductive Mode where
 | pure (scalar : Bool)
 | raw (frz : Bool)
 | ext (scalar : Bool)
structure Env where
 P : Program
 mode : FuncId → Mode
 ext : FuncId → List AV → Option AV
def opd (a : n8) : Operand → Option AV
 | .tmp t => some (a t)
 | .const v => aK1 v
 | .func f => some (.fn (.func f) [] [])
 | .global _ => none
def R8 (a : n8) : List Operand → Option (List AV)
 | [] => some []
 | x :: xs => match opd a x, R8 a xs with
  | some v, some vs => some (v :: vs)
  | _, _ => none
def Z6 (a : n8) (x : Operand) : Option Int := (opd a x).bind asI
def aC2 (a : n8) : Option Operand → Option (Option Int)
 | none => some none
 | some x => (Z6 a x).map some
def W8 (H : AH) (t : Tag) (elem sz : Nat) (plain : Bool) (cs : List AV) : AH := { H with o := upd H.o t (.row { elem, sz, gen := t, ro := false, plain, cs }) }
def ak7 (H : AH) (t : Tag) (r : Row) : AH := { H with o := upd H.o t (.row r) }
def y7 (place : Nat → Option (Nat × Nat)) (cells : List AV) : List (Nat × AV) → Option (List AV)
 | [] => some cells
 | (i, v) :: rest =>
  match place i with
  | none => none
  | some (off, size) =>
   if v.cells.length = size ∧ off + size ≤ cells.length ∧ v.cells.all n9 = true then y7 place (r8 cells off v.cells) rest else none
def A4 (a : n8) : List (Nat × Operand) → Option (List (Nat × AV))
 | [] => some []
 | (i, x) :: ps => match opd a x, A4 a ps with
  | some v, some vs => some ((i, v) :: vs)
  | _, _ => none
def J8 (P : Program) : List Field → Option (List (Nat × Nat))
 | [] => some []
 | f :: fs => match l9 P f.type, J8 P fs with
  | some s, some r => some ((f.offset, s) :: r)
  | _, _ => none
def D3 (P : Program) (t : TypeId) (parts : List (Nat × AV)) : Option AV :=
 match F8 P t, P.underlying t with
 | some z, some (.struct fs) => match J8 P fs.toList with
  | some ps => (y7 (fun i => ps[i]?) z parts).map .agg
  | none => none
 | some z, some (.array _ e) => match l9 P e with
  | some s => (y7 (fun i => some (i * s, s)) z parts).map .agg
  | none => none
 | _, _ => none
def w6 (P : Program) (tg : Tag) (t xt : TypeId) (s x : AV) (H : AH) : Option (AV × AH) :=
 match E7 P t with
 | none => none
 | some e =>
  match l9 P e, ag3 P e, F8 P e, D2 H.o x with
  | some sz, some by_, some z, some (m, new) =>
   if z.length ≠ sz ∨ (ar5 (P.underlying xt) = false ∧ (E7 P xt).isSome = false) ∨ new.length ≠ m * sz ∨ sz = 0 ∨ by_ = 0 ∨ new.all n9 = false then none else
   match s with
   | .nil =>
    if m = 0 then some (.nil, H)
    else if m * by_ ≤ 140737488355328 then some (.ref tg tg 0 m, W8 H tg e sz true new) else none
   | .ref k g 0 n =>
    match W7 H.o k g with
    | some r =>
     if r.elem = e ∧ r.sz = sz ∧ r.ro = false ∧ r.plain = true ∧ n * sz ≤ r.cs.length ∧ (n + m) * by_ ≤ 140737488355328 then
      some (.ref k tg 0 (n + m), ak7 H k { r with gen := tg, cs := r.cs.take (n * sz) ++ new })
     else none
    | none => none
   | _ => none
  | _, _, _, _ => none
def H4 (P : Program) (t : TypeId) (p x : AV) (H : AH) : Option AH :=
 match p, l9 P t with
 | .ptr k g off, some n =>
  match W7 H.o k g with
  | some r =>
   if x.cells.length = n ∧ x.cells.all n9 = true ∧ r.ro = false ∧ off + n ≤ r.cs.length then
    some (ak7 H k { r with cs := r8 r.cs off x.cells })
   else none
  | none => none
 | _, _ => none
def N4 (P : Program) (t : TypeId) (p : AV) (H : AH) : Option AV :=
 match p with
 | .ptr k g off => match W7 H.o k g with
  | some r => O4 P t (r.cs.drop off)
  | none => none
 | .fptr cs => O4 P t cs
 | _ => none
def P7 (P : Program) (t : TypeId) (d x : AV) (H : AH) : Option (AV × AH) :=
 match (E7 P t).bind (l9 P), D2 H.o x with
 | some sz, some (m, new) =>
  match d with
  | .ref k g off n =>
   match W7 H.o k g with
   | some r =>
    let c := Nat.min m n
    if (off = 0 ∨ 0 < n) ∧ r.sz = sz ∧ r.ro = false ∧ off + n * sz ≤ r.cs.length ∧ new.length = m * sz ∧ new.all n9 = true then
     some (.int .i64 c, ak7 H k { r with cs := r8 r.cs off (new.take (c * sz)) })
    else none
   | none => none
  | .nil => if new.length = m * sz then some (.int .i64 0, H) else none
  | _ => none
 | _, _ => none
def q7 (P : Program) (tg : Tag) (t : TypeId) (l c : Int) (H : AH) : Option (AV × AH) :=
 match E7 P t with
 | none => none
 | some e =>
  match l9 P e, ag3 P e, F8 P e with
  | some sz, some by_, some z =>
   if 0 ≤ l ∧ l ≤ c ∧ c * by_ ≤ 140737488355328 ∧ c ≤ 140737488355328 ∧ z.length = sz ∧ 0 < sz then
    some (.ref tg tg 0 l.toNat, W8 H tg e sz true (rep z l.toNat))
   else none
  | _, _, _ => none
def l7 (P : Program) (tg : Tag) (t : TypeId) (len : Nat) (parts : List (Nat × AV)) (H : AH) : Option (AV × AH) :=
 match E7 P t with
 | none => none
 | some e =>
  match l9 P e, F8 P e with
  | some sz, some z =>
   if len * sz ≤ 16777216 ∧ z.length = sz ∧ 0 < sz then
    match y7 (fun i => some (i * sz, sz)) (rep z len) parts with
    | some cs => some (.ref tg tg 0 len, W8 H tg e sz true cs)
    | none => none
   else none
  | _, _ => none
def R9 : List AV → Option (List UInt8)
 | [] => some []
 | .int .u8 n :: cs => match R9 cs with
  | some bs => some (UInt8.ofNat n.toNat :: bs)
  | none => none
 | _ => none
def f6 (P : Program) (tg : Tag) (src dst : TypeId) (x : AV) (H : AH) : Option (AV × AH) :=
 match P.underlying src, P.underlying dst, x with
 | some _, some (.int k), .int _ n => some (.int k (k.wrap n), H)
 | some _, some .string, .str s => some (.str s, H)
 | some .string, some (.slice e), .str s =>
  match P.underlying e with
  | some (.int .u8) => some (.ref tg tg 0 s.length, W8 H tg e 1 false (s.map fun b => .int .u8 b.toNat))
  | _ => none
 | some (.slice e), some .string, x =>
  match P.underlying e with
  | some (.int .u8) => match z7 H.o x with
   | some (n, cs) => if cs.length = n then (R9 cs).map fun bs => (.str bs, H) else none
   | none => none
  | _ => none
 | _, _, _ => none
def cf9 : Option TypeDesc → Bool
 | some (.int .i64) => true
 | _ => false
def bg3 : Option (List Leaf) → Bool
 | some [.int, .int] => true
 | _ => false
def ad6 (P : Program) (kt : TypeId) : Bool :=
 match P.underlying kt with
 | some (.array n e) => n == 2 && cf9 (P.underlying e) && decide (l9 P e = some 1) && decide (G9 P e = some false) && decide (G9 P kt = some true) && bg3 (D4 P kt)
 | _ => false
def aK2 (P : Program) (kt : TypeId) (k : AV) : Bool :=
 match P.underlying kt, k with
 | some (.int d), .int d' _ => decide (d = d')
 | some .string, .str _ => true
 | some (.array _ _), .agg [.int .i64 _, .int .i64 _] => ad6 P kt
 | _, _ => false
def N5 (x y : AV) : Option Bool :=
 match x, y with
 | .int k a, .int k' b => if k = k' then some (a == b) else none
 | .str a, .str b => some (a == b)
 | .agg [.int .i64 a, .int .i64 b], .agg [.int .i64 a', .int .i64 b'] => some (a == a' && b == b')
 | _, _ => none
def J9 (k : AV) : List (AV × AV) → Option (Option AV)
 | [] => some none
 | (q, v) :: es => match N5 k q, J9 k es with
  | some true, some _ => some (some v)
  | some false, some r => some r
  | _, _ => none
def aC6 (k v : AV) : List (AV × AV) → List (AV × AV)
 | [] => [(k, v)]
 | (q, u) :: es => if N5 k q = some true then (k, v) :: es else (q, u) :: aC6 k v es
def ax6 (o : Tag → Option AObj) (m : AV) : Option (List (AV × AV)) :=
 match m with
 | .nilmp => some []
 | .mp k => match o k with
  | some (.map es) => some es
  | _ => none
 | _ => none
def aK3 (P : Program) (t : TypeId) : Option AV := ((P.info? t).bind (·.zero)).bind aC5
def H9 (P : Program) (t : TypeId) (m k : AV) (commaOk : Bool) (H : AH) : Option AV :=
 match P.underlying t with
 | some (.map kt et) =>
  if aK2 P kt k = true then
   match ax6 H.o m, aK3 P et with
   | some es, some z => match J9 k es with
    | some (some v) => some (if commaOk then .tup [v, .bool true] else v)
    | some none => some (if commaOk then .tup [z, .bool false] else z)
    | none => none
   | _, _ => none
  else none
 | _ => none
def m6 (P : Program) (t : TypeId) (m k v : AV) (H : AH) : Option AH :=
 match P.underlying t, m with
 | some (.map kt _), .mp tg =>
  if aK2 P kt k = true then
   match H.o tg with
   | some (.map es) => match J9 k es with
    | some _ => some { H with o := upd H.o tg (.map (aC6 k v es)) }
    | none => none
   | _ => none
  else none
 | _, _ => none
def N6 (P : Program) (o : Tag → Option AObj) (t : TypeId) (x : AV) : Option AV :=
 match P.underlying t, x with
 | some .string, .str s => some (.int .i64 s.length)
 | some (.array n _), _ => some (.int .i64 n)
 | some (.slice _), .nil => some (.int .i64 0)
 | some (.slice _), .sl n _ => some (.int .i64 n)
 | some (.slice _), .ref _ _ _ n => some (.int .i64 n)
 | some (.map _ _), m => (ax6 o m).map fun es => .int .i64 es.length
 | _, _ => none
def cg0 : List AV → Option AV
 | [.int k x, .int k' y] => if k = k' then some (.int k (if y > x then y else x)) else none
 | _ => none
def ca9 : List AV → Option AV
 | [.int k x, .int k' y] => if k = k' then some (.int k (if y < x then y else x)) else none
 | _ => none
abbrev F9 := FuncId → List AV → Option AV
abbrev q8 := FuncId → List AV → AH → Option (AV × AH)
def B2 (scalar : Bool) (args : List AV) (r : AV) (H : AH) : Option (AV × AH) :=
 match scalar with
 | true => if flat r then some (r, H) else none
 | false => some (r, { H with o := C9 (args.flatMap (b9 H.o n6)) H.o })
def p8 (frz : Bool) (v : AV) (H : AH) : AV × AH :=
 if frz then (view H.o n6 v, if flat v then H else { H with o := C9 (b9 H.o n6 v) H.o }) else (v, H)
def ai5 (E : Env) (callP : F9) (callR : q8) (f : AV) (args : List AV) (H : AH) : Option (AV × AH) :=
 match f with
 | .fn (.func g) first captured =>
  let as_ := first ++ args ++ captured
  match E.mode g with
  | .pure sc => (callP g (as_.map (view H.o n6))).bind fun r => B2 sc as_ r H
  | .ext sc => (E.ext g (as_.map (view H.o n6))).bind fun r => B2 sc as_ r H
  | .raw frz => (callR g as_ H).map fun p => p8 frz p.1 p.2
 | _ => none
def ad7 (d : Option Nat) (f : Nat → Option (AV × AH)) : Option (AV × AH) := match d with | some t => f t | none => none
def f9 (E : Env) (callP : F9) (callR : q8) (st : Nat) (o : Oper) (a : n8) (H : AH) : Option (AV × AH) :=
 match o.op with
 | .move x => (opd a x).map (·, H)
 | .assign x => (opd a x).map (·, H)
 | .pick c x y => match opd a c with
  | some (.bool true) => (opd a x).map (·, H)
  | some (.bool false) => (opd a y).map (·, H)
  | _ => none
 | .alloc e => match o.dst, F8 E.P e with
  | some d, some z => some (.ptr (st, d) (st, d) 0, W8 H (st, d) e 1 true z)
  | _, _ => none
 | .box e x => match o.dst, opd a x with
  | some d, some v => if v.cells.all n9 then some (.ptr (st, d) (st, d) 0, W8 H (st, d) e 1 true v.cells) else none
  | _, _ => none
 | .build t parts => (A4 a parts.toList).bind fun ps => (D3 E.P t ps).map (·, H)
 | .buildSlice t len parts => ad7 o.dst fun d => (A4 a parts.toList).bind fun ps => l7 E.P (st, d) t len ps H
 | .load t x => (opd a x).bind fun p => (N4 E.P t p H).map (·, H)
 | .store t p x => (opd a p).bind fun pv => (opd a x).bind fun v => (H4 E.P t pv v H).map (noV, ·)
 | .nilCheck x => match opd a x with
  | some (.ptr k g off) => some (.ptr k g off, H)
  | some (.fptr cs) => some (.fptr cs, H)
  | some (.fn (.func f) first captured) => some (.fn (.func f) first captured, H)
  | _ => none
 | .binOp op t x y _ => (opd a x).bind fun u => (opd a y).bind fun v => (I1 E.P op t u v).map (·, H)
 | .unOp op _ x => (opd a x).bind fun u => (aUn op u).map (·, H)
 | .convert s t x => ad7 o.dst fun d => (opd a x).bind fun u => f6 E.P (st, d) s t u H
 | .makeFunc fn first captured => match R8 a first.toList, R8 a captured.toList with
  | some f, some c => some (.fn fn f c, H)
  | _, _ => none
 | .makeMap _ none => match o.dst with
  | some d => some (.mp (st, d), { H with o := upd H.o (st, d) (.map []) })
  | none => none
 | .makeSlice t l c => ad7 o.dst fun d => (Z6 a l).bind fun lv => (Z6 a c).bind fun cv => q7 E.P (st, d) t lv cv H
 | .slice t x lo hi none => (opd a x).bind fun v => (aC2 a lo).bind fun l => (aC2 a hi).bind fun h => (R7 E.P t v l h).map (·, H)
 | .fieldAddr t x f => match opd a x, E9 E.P t f with
  | some (.ptr k g off), some (o', ft) => if (l9 E.P ft).getD 0 = 0 then none else some (.ptr k g (off + o'), H)
  | some (.fptr cs), some (o', ft) => if (l9 E.P ft).getD 0 = 0 then none else some (.fptr (cs.drop o'), H)
  | _, _ => none
 | .field t x f => match opd a x, E9 E.P t f with
  | some (.agg cs), some (o', ft) => (O4 E.P ft (cs.drop o')).map (·, H)
  | _, _ => none
 | .indexAddr t x i => (opd a x).bind fun v => (Z6 a i).bind fun j => (j6 E.P t v j).map (·, H)
 | .index t x i => (opd a x).bind fun v => (Z6 a i).bind fun j => (R1 E.P t v j).map (·, H)
 | .lookup t m k ok => (opd a m).bind fun mv => (opd a k).bind fun kv => (H9 E.P t mv kv ok H).map (·, H)
 | .mapUpdate t m k v => (opd a m).bind fun mv => (opd a k).bind fun kv => (opd a v).bind fun vv => (m6 E.P t mv kv vv H).map (noV, ·)
 | .insert t m k v => (opd a m).bind fun mv => (opd a k).bind fun kv => (opd a v).bind fun vv => (m6 E.P t mv kv vv H).map (noV, ·)
 | .extract t i => match opd a t with
  | some (.tup vs) => (vs[i]?).map (·, H)
  | _ => none
 | .call c =>
  (R8 a c.args.toList).bind fun args =>
  match c.callee with
  | .value f => (opd a f).bind fun fv => ai5 E callP callR fv args H
  | .builtin .len => match args with
   | [x] => (if 0 < c.argTypes.size then N6 E.P H.o (c.argTypes.getD 0 0) x else none).map (·, H)
   | _ => none
  | .builtin .append => match args with
   | [s, x] => if c.argTypes.size = 2 then ad7 o.dst fun d => w6 E.P (st, d) (c.argTypes.getD 0 0) (c.argTypes.getD 1 0) s x H else none
   | _ => none
  | .builtin .copy => match args with
   | [s, x] => if 0 < c.argTypes.size then P7 E.P (c.argTypes.getD 0 0) s x H else none
   | _ => none
  | .builtin .max => (cg0 args).map (·, H)
  | .builtin .min => (ca9 args).map (·, H)
  | _ => none
 | _ => none
def C6 (ops : Array Oper) (a : n8) (j : Nat) : Option (Option Bool) :=
 match (ops[j]?).bind (·.dst) with
 | none => some none
 | some d => match a d with
  | .bool b => some (some b)
  | .und => none
  | .mp _ => none
  | _ => some none
def y9 (ops : Array Oper) (a : n8) (o : Oper) : Option Bool :=
 match o.guard with
 | none => some true
 | some (j, want) => (C6 ops a j).map fun y => y == some want
def P8 (E : Env) (callP : F9) (callR : q8) (st : Nat) (ops : Array Oper) (o : Oper) (a : n8) (H : AH) : Option (n8 × AH) :=
 match y9 ops a o with
 | some true => (f9 E callP callR st o a H).map fun p => (J7 a o.dst p.1, p.2)
 | some false => some (J7 a o.dst noV, H)
 | none => none
def steps (E : Env) (callP : F9) (callR : q8) (st : Nat) (ops : Array Oper) : List Oper → n8 → AH → Option (n8 × AH)
 | [], a, H => some (a, H)
 | o :: l, a, H => match P8 E callP callR st ops o a H with
  | some (a', H') => steps E callP callR st ops l a' H'
  | none => none
structure FP where
 r : List Tag
 w : List Tag
 all : Bool
def FP.none_ : FP := ⟨[], [], false⟩
def y8 : AV → List Tag
 | .ref k _ _ _ => [k]
 | .ptr k _ _ => [k]
 | .mp k => [k]
 | _ => []
def O3 (v : Option AV) : List Tag := match v with | some x => y8 x | none => []
def aC7 (f : FuncId) : Bool :=
 if f = 79 then true else
 if f = 67 then true else
 if f = 89 then true else
 false
def bx0 (z : Bool) (g : FuncId) (n : Nat) : List Tag := if z then [] else if aC7 g then [(n, 0)] else []
def below (t b : Tag) : Bool := decide (t.1 < b.1)
def z8 (E : Env) (st : Nat) (ops : Array Oper) (o : Oper) (a : n8) (H : AH) : FP :=
 if y9 ops a o = some true then
  let own : List Tag := match o.dst with | some d => [(st, d)] | none => []
  match o.op with
  | .load _ x => ⟨O3 (opd a x), [], false⟩
  | .store _ p _ => ⟨[], O3 (opd a p), false⟩
  | .alloc _ => ⟨[], own, false⟩
  | .box _ _ => ⟨[], own, false⟩
  | .buildSlice _ _ _ => ⟨[], own, false⟩
  | .makeSlice _ _ _ => ⟨[], own, false⟩
  | .makeMap _ _ => ⟨[], own, false⟩
  | .convert _ _ x => ⟨O3 (opd a x), own, false⟩
  | .lookup _ m _ _ => ⟨O3 (opd a m), [], false⟩
  | .mapUpdate _ m _ _ => ⟨[], O3 (opd a m), false⟩
  | .insert _ m _ _ => ⟨[], O3 (opd a m), false⟩
  | .call c =>
   let args := c.args.toList
   match c.callee with
   | .builtin .append => ⟨O3 (args[1]?.bind (opd a)), own ++ O3 (args[0]?.bind (opd a)), false⟩
   | .builtin .copy => ⟨O3 (args[1]?.bind (opd a)), O3 (args[0]?.bind (opd a)), false⟩
   | .builtin _ => ⟨args.flatMap fun x => O3 (opd a x), [], false⟩
   | .value f =>
    match opd a f with
    | some (.fn (.func g) first captured) =>
     let ts := (first ++ (args.filterMap (opd a)) ++ captured).flatMap (b9 H.o n6)
     match E.mode g with
     | .pure true => ⟨ts, [], false⟩
     | .ext true => ⟨ts, [], false⟩
     | .pure false => ⟨ts, ts, false⟩
     | .ext false => ⟨ts, ts, false⟩
     | .raw z => ⟨[], bx0 z g H.nx, true⟩
    | _ => ⟨[], [], true⟩
   | _ => ⟨[], [], true⟩
  | _ => FP.none_
 else FP.none_
def aC3 (x y : FP) : Bool :=
 if x.all then !y.all && (y.w.isEmpty && y.r.all fun t => x.w.any (below t))
 else if y.all then x.w.isEmpty && x.r.all fun t => y.w.any (below t)
 else x.w.all (fun t => !y.r.contains t && !y.w.contains t) && y.w.all (fun t => !x.r.contains t)
def E1 (E : Env) (callP : F9) (callR : q8) (st : Nat) (ops : Array Oper) : List Oper → n8 → AH → Option (n8 × AH × List FP)
 | [], a, H => some (a, H, [])
 | o :: l, a, H => match P8 E callP callR st ops o a H with
  | some (a', H') => match E1 E callP callR st ops l a' H' with
   | some (a'', H'', fs) => some (a'', H'', z8 E st ops o a H :: fs)
   | none => none
  | none => none
def once : List Nat → List Nat → List Nat
 | [], acc => acc
 | x :: l, acc => once l (if acc.contains x then acc else x :: acc)
theorem aQ5 {i : Nat} : ∀ {l acc : List Nat}, i ∈ once l acc → i ∈ l ∨ i ∈ acc
 | [], acc, h => .inr h
 | x :: l, acc, h => by
  rw [once] at h
  rcases aQ5 h with h | h
  ·exact .inl (List.mem_cons_of_mem _ h)
  ·split at h
   ·exact .inr h
   ·rcases List.mem_cons.1 h with rfl | h
    ·exact .inl (List.mem_cons_self ..)
    ·exact .inr h
def bg4 (done : List (List Nat)) (i : Nat) (o : Oper) : Option (List Nat) :=
 if o.after.toList.all (fun e => !Region.binds .any e || decide (e.on < i)) then
  some (once ((o.after.toList.filter (Region.binds .any)).flatMap fun e => e.on :: (done[e.on]?).getD []) [])
 else none
def ak8 : List Oper → List (List Nat) → Option (List (List Nat))
 | [], done => some done
 | o :: l, done => match bg4 done done.length o with
  | some b => ak8 l (done ++ [b])
  | none => none
def M6 (E : Env) (o : Oper) : Nat :=
 match o.op with
 | .load _ _ => 1
 | .lookup _ _ _ _ => 1
 | .store _ _ _ => 2
 | .alloc _ => 2
 | .box _ _ => 2
 | .buildSlice _ _ _ => 2
 | .makeSlice _ _ _ => 2
 | .makeMap _ _ => 2
 | .convert _ _ _ => 2
 | .mapUpdate _ _ _ _ => 2
 | .insert _ _ _ _ => 2
 | .call c => match c.callee with
  | .builtin .append => 2
  | .builtin .copy => 2
  | .builtin _ => 1
  | .value (.func g) => match E.mode g with
   | .pure true => 1
   | .ext true => 1
   | _ => 2
  | _ => 2
 | _ => 0
def bx7 (o : Oper) : Bool := match o.op with | .select _ _ => true | _ => false
def S0 (E : Env) (ops : Array Oper) : Option (List (Nat × Nat)) :=
 match ak8 ops.toList [] with
 | none => none
 | some bs =>
  let l := ops.toList.zipIdx
  if l.any (fun p => bx7 p.1) then none else
  let prs := l.flatMap fun (y, j) => (l.take j).filterMap fun (x, i) => if ((bs[j]?).getD []).contains i then none else some (x, i, y, j)
  if prs.all (fun (x, _, y, _) => x.apart ops y) then
   some ((prs.filter fun (x, _, y, _) => (M6 E x == 2 && M6 E y != 0) || (M6 E y == 2 && M6 E x != 0)).map fun (_, i, _, j) => (i, j))
  else none
def I0 (fs : List FP) (prs : List (Nat × Nat)) : Bool :=
 prs.all fun (i, j) => match fs[i]?, fs[j]? with
  | some x, some y => aC3 x y
  | _, _ => false
inductive Out where
 | normal
 | exit (id : Nat)
 | goto (l : Nat)
 | ret
abbrev Res := Option (Out × n8 × AH)
def E2 (E : Env) (callP : F9) (callR : q8) (ops : Array Oper) (draw : Bool) (a : n8) (H : AH) : Res :=
 match draw with
 | false => (steps E callP callR H.nx ops ops.toList a { H with nx := H.nx + 1 }).map fun p => (.normal, p.1, p.2)
 | true =>
  match S0 E ops with
  | some [] => (steps E callP callR H.nx ops ops.toList a { H with nx := H.nx + 1 }).map fun p => (.normal, p.1, p.2)
  | some prs => match E1 E callP callR H.nx ops ops.toList a { H with nx := H.nx + 1 } with
   | some (a', H', fs) => if I0 fs prs then some (.normal, a', H') else none
   | none => none
  | none => none
def bg5 (r : Res) (f : n8 → AH → Res) : Res :=
 match r with
 | some (.normal, a, H) => f a H
 | r => r
def bg0 (f : n8 → AH → Res) : Nat → n8 → AH → Res
 | 0, _, _ => none
 | n + 1, a, H => bg5 (f a H) (bg0 f n)
def P9 (has : Nat → Bool) (g : Nat → n8 → AH → Res) : Nat → Res → Res
 | 0, _ => none
 | n + 1, r => match r with
  | some (.goto l, a, H) => if has l then P9 has g n (g l a H) else r
  | r => r
def n7 (E : Env) (callP : F9) (callR : q8) (k : Nat) : Option Nat → Code → n8 → AH → Res
 | none, .skip, a, H => some (.normal, a, H)
 | none, .label _, a, H => some (.normal, a, H)
 | some l, .label l', a, H => if l' = l then some (.normal, a, H) else none
 | none, .region _ ops draw, a, H => E2 E callP callR ops draw a H
 | none, .seq x y, a, H => bg5 (n7 E callP callR k none x a H) (n7 E callP callR k none y)
 | some l, .seq x y, a, H =>
  if (findLabel x l).isSome then bg5 (n7 E callP callR k (some l) x a H) (n7 E callP callR k none y)
  else n7 E callP callR k (some l) y a H
 | none, .cond c x y, a, H => match opd a c with
  | some (.bool true) => n7 E callP callR k none x a H
  | some (.bool false) => n7 E callP callR k none y a H
  | _ => none
 | none, .block id c, a, H => match n7 E callP callR k none c a H with
  | some (.exit id', a', H') => if id' = id then some (.normal, a', H') else some (.exit id', a', H')
  | r => r
 | none, .loop c, a, H => bg0 (n7 E callP callR k none c) k a H
 | none, .exit id, a, H => some (.exit id, a, H)
 | none, .goto l, a, H => some (.goto l, a, H)
 | none, .ret, a, H => some (.ret, a, H)
 | none, .scope c, a, H => P9 (fun l => (findLabel c l).isSome) (fun l => n7 E callP callR k (some l) c) k (n7 E callP callR k none c a H)
 | _, _, _, _ => none
def A2 (o : Oper) : Bool :=
 match o.op with
 | .alloc _ => true
 | .box _ _ => true
 | .buildSlice _ _ _ => true
 | .makeSlice _ _ _ => true
 | .makeMap _ _ => true
 | .convert _ _ _ => true
 | .call c => match c.callee with
  | .builtin .append => true
  | _ => false
 | _ => false
def aK4 (x y : Oper) : Bool := A2 x && A2 y && x.dst.isSome && x.dst == y.dst
def ag5 : List Oper → Bool
 | [] => true
 | x :: l => l.all (fun y => !aK4 x y) && ag5 l
def bK2 (n : Nat) (ops : List Oper) : Bool := ops.all fun o => match o.dst with | some d => decide (d < n) | none => true
def A7 (n : Nat) : Code → Bool
 | .region _ ops _ => bK2 n ops.toList && ag5 ops.toList
 | .seq a b => A7 n a && A7 n b
 | .cond _ a b => A7 n a && A7 n b
 | .block _ c => A7 n c
 | .loop c => A7 n c
 | .scope c => A7 n c
 | .rangeFunc _ _ a b => A7 n a && A7 n b
 | _ => true
def cy0 (fn : Func) : Bool := !(fn.name == "runtime.NumGoroutine") && (match fn.body with | some c => A7 fn.ntmps c | none => false)
def y0 (args : List AV) : n8 := fun t => (args[t]?).getD noV
def X9 (P : Program) (a : n8) (H : AH) : ResultVar → Option AV
 | .tmp t => some (a t)
 | .cell ad t => N4 P t (a ad) H
def m4 (P : Program) (a : n8) (H : AH) : List ResultVar → Option (List AV)
 | [] => some []
 | r :: rs => match X9 P a H r, m4 P a H rs with
  | some v, some vs => some (v :: vs)
  | _, _ => none
def ad3 : List AV → AV
 | [v] => v
 | vs => .tup vs
def K0 (E : Env) (callP : F9) (callR : q8) (k : Nat) (f : FuncId) (args : List AV) (H : AH) : Option (AV × AH) :=
 match E.P.funcs[f]? with
 | none => none
 | some fn =>
  if cy0 fn && decide (args.length ≤ fn.ntmps) then
   match fn.body with
   | none => none
   | some c => match n7 E callP callR k none c (y0 args) H with
    | some (.normal, a, H') => (m4 E.P a H' fn.results.toList).map fun vs => (ad3 vs, H')
    | some (.ret, a, H') => (m4 E.P a H' fn.results.toList).map fun vs => (ad3 vs, H')
    | _ => none
  else none
def aC8 : AH := { o := fun _ => none, nx := 0 }
def w8 (E : Env) : Code → Bool
 | .region _ ops _ => ops.toList.all fun o => decide (M6 E o ≤ 1)
 | .seq x y => w8 E x && w8 E y
 | .cond _ x y => w8 E x && w8 E y
 | .ret => true
 | .skip => true
 | _ => false
def aC9 (E : Env) (f : FuncId) : Bool := match E.P.funcs[f]? with
 | some fn => match fn.body with
  | some c => w8 E c
  | none => false
 | none => false
def O5 (E : Env) : Nat → F9 × q8
 | 0 => (fun _ _ => none, fun _ _ _ => none)
 | n + 1 =>
  (fun f args => (K0 E (O5 E n).1 (O5 E n).2 (n + 1) f args aC8).map fun p => view p.2.o n6 p.1,
   fun f args H => if aC7 f && !aC9 E f then none else K0 E (O5 E n).1 (O5 E n).2 (n + 1) f args H)
inductive PR (S : Nat → Prop) (w : World) : AV → Value → Prop
 | und (v) : PR S w .und v
 | bool (b) : PR S w (.bool b) (.bool b)
 | int (k n) : PR S w (.int k n) (.int k n)
 | str (s : List UInt8) : PR S w (.str s) (.string ⟨s.toArray⟩)
 | agg (cs : List AV) (vs : Array Value) (hl : vs.size = cs.length) (h : ∀ (j : Nat) (x : AV) (u : Value), cs[j]? = some x → vs[j]? = some u → PR S w x u) (h1 : ∀ (j : Nat) (u : Value), vs[j]? = some u → u.oneCell' = true) : PR S w (.agg cs) (.agg vs)
 | tup (cs : List AV) (vs : Array Value) (hl : vs.size = cs.length) (h : ∀ (j : Nat) (x : AV) (u : Value), cs[j]? = some x → vs[j]? = some u → PR S w x u) : PR S w (.tup cs) (.tuple vs)
 | fn (f : Fn) (fs cs : List AV) (us vs : Array Value) (hl : us.size = fs.length) (hl' : vs.size = cs.length) (h : ∀ (j : Nat) (x : AV) (u : Value), fs[j]? = some x → us[j]? = some u → PR S w x u) (h' : ∀ (j : Nat) (x : AV) (u : Value), cs[j]? = some x → vs[j]? = some u → PR S w x u) : PR S w (.fn f fs cs) (.func f us vs)
 | nil : PR S w .nil (.slice none 0 0)
 | nilmp : PR S w .nilmp (.map none)
 | nilp : PR S w .nilp (.pointer none)
 | sl (n : Nat) (cs : List AV) (A : Option Addr) (cap : Nat) (u : Nat → Value) (hn : n ≤ cap) (hA : 0 < n → ∃ a, A = some a) (ha : cs ≠ [] → ∃ a, A = some a ∧ S a.block) (hc : ∀ (a : Addr) (j : Nat) (x : AV), A = some a → cs[j]? = some x → w.cell? (a.add j) = some (u j))
   (h1 : ∀ (j : Nat) (x : AV), cs[j]? = some x → (u j).oneCell' = true) (h : ∀ (j : Nat) (x : AV), cs[j]? = some x → PR S w x (u j)) : PR S w (.sl n cs) (.slice A n cap)
 | fptr (cs : List AV) (a : Addr) (u : Nat → Value) (ha : cs ≠ [] → S a.block) (hc : ∀ (j : Nat) (x : AV), cs[j]? = some x → w.cell? (a.add j) = some (u j))
   (h1 : ∀ (j : Nat) (x : AV), cs[j]? = some x → (u j).oneCell' = true) (h : ∀ (j : Nat) (x : AV), cs[j]? = some x → PR S w x (u j)) : PR S w (.fptr cs) (.pointer (some a))
theorem S4 (a : Addr) (n : Nat) : (a.add n).block = a.block := by unfold Addr.add; split <;> rfl
theorem aK5 (a : Addr) (i j : Nat) : (a.add i).add j = a.add (i + j) := by
 unfold Addr.add
 by_cases hi : i = 0 <;> by_cases hj : j = 0 <;> simp [hi, hj, Nat.add_assoc]
theorem PR.mono {S S' : Nat → Prop} {w w' : World} (hS : ∀ b, S b → S' b) (hw : ∀ b, S b → w'.heap[b]? = w.heap[b]?) {x : AV} {v : Value} (h : PR S w x v) : PR S' w' x v := by
 induction h with
 | und v => exact .und v
 | bool b => exact .bool b
 | int k n => exact .int k n
 | str s => exact .str s
 | agg cs vs hl _ h1 ih => exact .agg cs vs hl ih h1
 | tup cs vs hl _ ih => exact .tup cs vs hl ih
 | fn f fs cs us vs hl hl' _ _ ih ih' => exact .fn f fs cs us vs hl hl' ih ih'
 | nil => exact .nil
 | nilmp => exact .nilmp
 | nilp => exact .nilp
 | sl n cs A cap u hn hA ha hc h1 _ ih =>
  refine .sl n cs A cap u hn hA (fun hne => ?_) (fun a j x hA hx => ?_) h1 ih
  ·obtain ⟨a, e, hb⟩ := ha hne
   exact ⟨a, e, hS _ hb⟩
  ·have hne : cs ≠ [] := fun e => by rw [e] at hx; simp at hx
   obtain ⟨a', e, hb⟩ := ha hne
   obtain rfl : a = a' := by rw [hA] at e; injection e
   rw [World.cell?_of_block (w := w) (by rw [S4]; exact hw _ hb)]
   exact hc a j x hA hx
 | fptr cs a u ha hc h1 _ ih =>
  refine .fptr cs a u (fun hne => hS _ (ha hne)) (fun j x hx => ?_) h1 ih
  have hne : cs ≠ [] := fun e => by rw [e] at hx; simp at hx
  rw [World.cell?_of_block (w := w) (by rw [S4]; exact hw _ (ha hne))]
  exact hc j x hx
structure Ctx where
 S : Nat → Prop
 φ : Tag → Nat
 H : Tag → Option AObj
 T : Tag → Prop
 w : World
def AObj.ro : AObj → Bool
 | .row r => r.ro
 | .map _ => false
def aj2 (c : Ctx) (k : Tag) : Prop := ∃ o, c.H k = some o ∧ o.ro = false
inductive VR (c : Ctx) : AV → Value → Prop
 | data (x v) (h : PR c.S c.w x v) : VR c x v
 | agg (cs : List AV) (vs : Array Value) (hl : vs.size = cs.length) (h : ∀ (j : Nat) (x : AV) (u : Value), cs[j]? = some x → vs[j]? = some u → VR c x u) (h1 : ∀ (j : Nat) (u : Value), vs[j]? = some u → u.oneCell' = true) : VR c (.agg cs) (.agg vs)
 | tup (cs : List AV) (vs : Array Value) (hl : vs.size = cs.length) (h : ∀ (j : Nat) (x : AV) (u : Value), cs[j]? = some x → vs[j]? = some u → VR c x u) : VR c (.tup cs) (.tuple vs)
 | fn (f : Fn) (fs cs : List AV) (us vs : Array Value) (hl : us.size = fs.length) (hl' : vs.size = cs.length) (h : ∀ (j : Nat) (x : AV) (u : Value), fs[j]? = some x → us[j]? = some u → VR c x u) (h' : ∀ (j : Nat) (x : AV) (u : Value), cs[j]? = some x → vs[j]? = some u → VR c x u) : VR c (.fn f fs cs) (.func f us vs)
 | ref (k g : Tag) (off n : Nat) (A : Option Addr) (cap : Nat) (hk : c.T k) (hg : c.T g) (hn : n ≤ cap) (hA : off = 0 ∨ 0 < n → ∃ a, A = some a)
   (h : ∀ r, c.H k = some (.row r) → r.gen = g → (off = 0 ∨ 0 < n → A = some ⟨c.φ k, off, none⟩) ∧ (off = 0 → ∀ cells e m, c.w.heap[c.φ k]? = some (.cells cells e m) → cap * r.sz ≤ cells.size)) : VR c (.ref k g off n) (.slice A n cap)
 | ptr (k g : Tag) (off : Nat) (a : Addr) (hk : c.T k) (hg : c.T g)
   (h : ∀ r, c.H k = some (.row r) → r.gen = g → a = ⟨c.φ k, off, none⟩) : VR c (.ptr k g off) (.pointer (some a))
 | mp (k : Tag) (v : Value) (hk : c.T k) (h1 : v.oneCell' = true) (h : ∀ es, c.H k = some (.map es) → v = .map (some (c.φ k))) : VR c (.mp k) v
structure Mono (c c' : Ctx) : Prop where
 S : ∀ b, c.S b → c'.S b
 blk : ∀ b, c.S b → c'.w.heap[b]? = c.w.heap[b]?
 T : ∀ t, c.T t → c'.T t
 row : ∀ k r', c'.H k = some (.row r') → (∃ r, c.H k = some (.row r) ∧ r.gen = r'.gen ∧ r.sz = r'.sz ∧ c'.φ k = c.φ k ∧ (∀ cells' e m, c'.w.heap[c'.φ k]? = some (.cells cells' e m) → ∃ cells e0 m0, c.w.heap[c.φ k]? = some (.cells cells e0 m0) ∧ cells.size ≤ cells'.size)) ∨ ¬ c.T r'.gen
 map : ∀ k es', c'.H k = some (.map es') → (∃ es, c.H k = some (.map es) ∧ c'.φ k = c.φ k) ∨ ¬ c.T k
theorem Mono.refl (c : Ctx) : Mono c c := ⟨fun _ h => h, fun _ _ => rfl, fun _ h => h, fun _ r h => .inl ⟨r, h, rfl, rfl, rfl, fun cells e m hc => ⟨cells, e, m, hc, Nat.le_refl _⟩⟩, fun _ es h => .inl ⟨es, h, rfl⟩⟩
theorem Mono.trans {a b c : Ctx} (h : Mono a b) (k : Mono b c) : Mono a c where
 S := fun x hx => k.S x (h.S x hx)
 blk := fun x hx => (k.blk x (h.S x hx)).trans (h.blk x hx)
 T := fun t ht => k.T t (h.T t ht)
 row := fun t r'' hr'' => by
  rcases k.row t r'' hr'' with ⟨r', hr', e1, e2, e3, hs⟩ | hn
  ·rcases h.row t r' hr' with ⟨r, hr, f1, f2, f3, hs'⟩ | hn
   ·refine .inl ⟨r, hr, f1.trans e1, f2.trans e2, e3.trans f3, fun cells e m hc => ?_⟩
    obtain ⟨c1, e1', m1, hc1, hl1⟩ := hs cells e m hc
    obtain ⟨c2, e2', m2, hc2, hl2⟩ := hs' c1 e1' m1 hc1
    exact ⟨c2, e2', m2, hc2, Nat.le_trans hl2 hl1⟩
   ·exact .inr (by rw [← e1]; exact hn)
  ·exact .inr fun ht => hn (h.T _ ht)
 map := fun t es'' hes => by
  rcases k.map t es'' hes with ⟨es', h', e⟩ | hn
  ·rcases h.map t es' h' with ⟨es, h0, e0⟩ | hn
   ·exact .inl ⟨es, h0, e.trans e0⟩
   ·exact .inr hn
  ·exact .inr fun ht => hn (h.T _ ht)
theorem VR.mono {c c' : Ctx} (m : Mono c c') {x : AV} {v : Value} (h : VR c x v) : VR c' x v := by
 induction h with
 | data x v h => exact .data x v (h.mono m.S m.blk)
 | agg cs vs hl _ h1 ih => exact .agg cs vs hl ih h1
 | tup cs vs hl _ ih => exact .tup cs vs hl ih
 | fn f fs cs us vs hl hl' _ _ ih ih' => exact .fn f fs cs us vs hl hl' ih ih'
 | ref k g off n A cap hk hg hn hA h =>
  refine .ref k g off n A cap (m.T _ hk) (m.T _ hg) hn hA fun r' hr' hgen => ?_
  rcases m.row k r' hr' with ⟨r, hr, e1, e2, e3, hs⟩ | hn
  ·obtain ⟨hA', hsz⟩ := h r hr (e1.trans hgen)
   refine ⟨by rw [e3]; exact hA', fun h0 cells e mk hc => ?_⟩
   obtain ⟨c1, e', m', hc1, hl⟩ := hs cells e mk hc
   have := hsz h0 c1 e' m' hc1
   rw [e2] at this
   omega
  ·exact absurd (hgen ▸ hg) hn
 | ptr k g off a hk hg h =>
  refine .ptr k g off a (m.T _ hk) (m.T _ hg) fun r' hr' hgen => ?_
  rcases m.row k r' hr' with ⟨r, hr, e1, e2, e3, hs⟩ | hn
  ·rw [e3]
   exact h r hr (e1.trans hgen)
  ·exact absurd (hgen ▸ hg) hn
 | mp k v hk h1 h =>
  refine .mp k v (m.T _ hk) h1 fun es' hes => ?_
  rcases m.map k es' hes with ⟨es, h0, e⟩ | hn
  ·rw [e]
   exact h es h0
  ·exact absurd hk hn
def cg1 : List (Nat × List Value) := [(1, Lib.pow10Tab.map fun z => Value.int .u64 z)]
def Gl (S : Nat → Prop) (w : World) : Prop := ∀ x ∈ cg1, S x.1 ∧ ∃ t m, w.heap[x.1]? = some (.cells x.2.toArray t m)
theorem Gl.mono {S S' : Nat → Prop} {w w' : World} (hS : ∀ b, S b → S' b) (hw : ∀ b, S b → w'.heap[b]? = w.heap[b]?) (h : Gl S w) : Gl S' w' := fun x hx => ⟨hS _ (h x hx).1, by rw [hw _ (h x hx).1]; exact (h x hx).2⟩
structure Inv (c : Ctx) : Prop where
 imm : ∀ b, c.S b → b < c.w.heap.size
 row : ∀ k r, c.H k = some (.row r) → c.T k ∧ c.T r.gen ∧ (r.ro = true → c.S (c.φ k)) ∧ (r.ro = false → ¬ c.S (c.φ k)) ∧
  ∃ cells m, c.w.heap[c.φ k]? = some (.cells cells r.elem m) ∧ (r.plain = true → m = (0, 0)) ∧ (m.2 = 0 ∨ r.cs.length ≤ m.1) ∧ r.cs.length ≤ cells.size ∧ ∀ (j : Nat) (x : AV), r.cs[j]? = some x → ∃ u : Value, cells[j]? = some u ∧ u.oneCell' = true ∧ VR c x u
 map : ∀ k es, c.H k = some (.map es) → c.T k ∧ ¬ c.S (c.φ k) ∧
  ∃ entries clock, c.w.heap[c.φ k]? = some (.map entries clock) ∧ entries.size = es.length ∧ ∀ (j : Nat) (x : AV × AV) (e : MapEntry), es[j]? = some x → entries[j]? = some e → VR c x.1 e.key ∧ VR c x.2 e.val
 inj : ∀ k k', aj2 c k → aj2 c k' → c.φ k = c.φ k' → k = k'
 gl : Gl c.S c.w
theorem Inv.lt {c : Ctx} (h : Inv c) {k : Tag} {o : AObj} (ho : c.H k = some o) : c.φ k < c.w.heap.size := by
 cases o with
 | row r => obtain ⟨_, _, _, _, cells, m, hc, _⟩ := h.row k r ho; exact (Array.getElem?_eq_some_iff.1 hc).1
 | map es => obtain ⟨_, _, en, cl, hc, _⟩ := h.map k es ho; exact (Array.getElem?_eq_some_iff.1 hc).1
theorem Inv.live_not {c : Ctx} (h : Inv c) {k : Tag} (hl : aj2 c k) : ¬ c.S (c.φ k) := by
 obtain ⟨o, ho, hr⟩ := hl
 cases o with
 | row r => exact (h.row k r ho).2.2.2.1 hr
 | map es => exact (h.map k es ho).2.1
structure Step (c c' : Ctx) : Prop where
 os : c'.w.os = c.w.os
 tape : c'.w.tape = c.w.tape
 output : c'.w.output = c.w.output
 size : c.w.heap.size ≤ c'.w.heap.size
 keep : ∀ b, b < c.w.heap.size → (∀ k, aj2 c k → c.φ k ≠ b) → c'.w.heap[b]? = c.w.heap[b]?
 mono : Mono c c'
 Snew : ∀ b, c'.S b → c.S b ∨ c.w.heap.size ≤ b ∨ ∃ k, aj2 c k ∧ c.φ k = b
 img : ∀ k, aj2 c' k → c.w.heap.size ≤ c'.φ k ∨ ∃ k', aj2 c k' ∧ c.φ k' = c'.φ k
theorem Step.refl (c : Ctx) : Step c c := ⟨rfl, rfl, rfl, Nat.le_refl _, fun _ _ _ => rfl, Mono.refl c, fun _ h => .inl h, fun k h => .inr ⟨k, h, rfl⟩⟩
theorem Step.trans {a b c : Ctx} (h : Step a b) (k : Step b c) : Step a c where
 os := k.os.trans h.os
 tape := k.tape.trans h.tape
 output := k.output.trans h.output
 size := Nat.le_trans h.size k.size
 keep := fun x hx hl => by
  rw [k.keep x (by have := h.size; omega) (fun t ht => ?_), h.keep x hx hl]
  rcases h.img t ht with h1 | ⟨t', ht', e⟩
  ·omega
  ·rw [← e]; exact hl t' ht'
 mono := h.mono.trans k.mono
 Snew := fun x hx => by
  rcases k.Snew x hx with h1 | h1 | ⟨t, ht, e⟩
  ·exact h.Snew x h1
  ·exact .inr (.inl (Nat.le_trans h.size h1))
  ·rcases h.img t ht with h1 | ⟨t', ht', e'⟩
   ·exact .inr (.inl (by omega))
   ·exact .inr (.inr ⟨t', ht', e'.trans e⟩)
 img := fun t ht => by
  rcases k.img t ht with h1 | ⟨t', ht', e⟩
  ·exact .inl (Nat.le_trans h.size h1)
  ·rcases h.img t' ht' with h1 | ⟨t'', ht'', e'⟩
   ·exact .inl (by omega)
   ·exact .inr ⟨t'', ht'', e'.trans e⟩
def Ctx.world (c : Ctx) (w : World) : Ctx := { c with w := w }
theorem ad8 {c : Ctx} {w : World} (h : Inv c) (hh : w.heap = c.w.heap) (ho : w.os = c.w.os) (ht : w.tape = c.w.tape) (hu : w.output = c.w.output) : Inv (c.world w) ∧ Step c (c.world w) := by
 have m : Mono c (c.world w) := ⟨fun _ h => h, fun _ _ => by show w.heap[_]? = _; rw [hh], fun _ h => h, fun _ r h => .inl ⟨r, h, rfl, rfl, rfl, fun cells e m hc => ⟨cells, e, m, by rw [← hh]; exact hc, Nat.le_refl _⟩⟩, fun _ es h => .inl ⟨es, h, rfl⟩⟩
 refine ⟨⟨fun b hb => by show b < w.heap.size; rw [hh]; exact h.imm b hb, fun k r hr => ?_, fun k es hes => ?_, h.inj, h.gl.mono m.S m.blk⟩, ⟨ho, ht, hu, by show _ ≤ w.heap.size; rw [hh]; exact Nat.le_refl _, fun b _ _ => by show w.heap[b]? = _; rw [hh], m, fun _ h => .inl h, fun k h => .inr ⟨k, h, rfl⟩⟩⟩
 ·obtain ⟨h1, h2, h3, h4, cells, mk, hc, hp, hm, hl, hx⟩ := h.row k r hr
  refine ⟨h1, h2, h3, h4, cells, mk, by show w.heap[_]? = _; rw [hh]; exact hc, hp, hm, hl, fun j x hj => ?_⟩
  obtain ⟨u, hu1, hu2, hu3⟩ := hx j x hj
  exact ⟨u, hu1, hu2, hu3.mono m⟩
 ·obtain ⟨h1, h2, en, cl, hc, hl, hx⟩ := h.map k es hes
  refine ⟨h1, h2, en, cl, by show w.heap[_]? = _; rw [hh]; exact hc, hl, fun j x e hj he => ?_⟩
  obtain ⟨a, b⟩ := hx j x e hj he
  exact ⟨a.mono m, b.mono m⟩
def Ctx.new (c : Ctx) (t : Tag) (x : AObj) (o : Obj) : Ctx :=
 { S := c.S, φ := fun u => if u = t then c.w.heap.size else c.φ u, H := upd c.H t x, T := fun u => c.T u ∨ u = t, w := c.w.alloc o }
theorem v6 (w : World) (o : Obj) (b : Nat) (h : b < w.heap.size) : (w.alloc o).heap[b]? = w.heap[b]? := RowKit.Below.heap_alloc w o b h
theorem F0 (w : World) (o : Obj) : (w.alloc o).heap[w.heap.size]? = some o := by
 show (w.heap.push o)[w.heap.size]? = _
 simp
theorem V0 (w : World) (o : Obj) : (w.alloc o).heap.size = w.heap.size + 1 := by
 show (w.heap.push o).size = _
 simp
theorem aQ6 {c : Ctx} (h : Inv c) (t : Tag) (ht : ¬ c.T t) (x : AObj) (o : Obj) (hg : ∀ r, x = .row r → r.gen = t) : Mono c (c.new t x o) where
 S := fun _ h => h
 blk := fun b hb => v6 _ _ _ (h.imm b hb)
 T := fun _ h => .inl h
 row := fun k r' hr' => by
  simp only [Ctx.new] at hr' ⊢
  by_cases e : k = t
  ·subst e
   rw [f8] at hr'
   injection hr' with hr'
   exact .inr (by rw [hg r' hr']; exact ht)
  ·rw [B9 _ _ _ _ e] at hr'
   refine .inl ⟨r', hr', rfl, rfl, if_neg e, fun cells' e' m hc => ⟨cells', e', m, ?_, Nat.le_refl _⟩⟩
   rw [if_neg e, v6 _ _ _ (h.lt hr')] at hc
   exact hc
 map := fun k es' hes => by
  simp only [Ctx.new] at hes ⊢
  by_cases e : k = t
  ·exact .inr (e ▸ ht)
  ·rw [B9 _ _ _ _ e] at hes
   exact .inl ⟨es', hes, if_neg e⟩
theorem Z7 {c : Ctx} {t : Tag} {x : AObj} {o : Obj} {k : Tag} (hl : aj2 (c.new t x o) k) (e : k ≠ t) : aj2 c k := by
 obtain ⟨y, hy, hr⟩ := hl
 simp only [Ctx.new, B9 _ _ _ _ e] at hy
 exact ⟨y, hy, hr⟩
theorem aQ7 {c : Ctx} (h : Inv c) (t : Tag) (ht : ¬ c.T t) (x : AObj) (o : Obj) (hg : ∀ r, x = .row r → r.gen = t) : Step c (c.new t x o) where
 os := rfl
 tape := rfl
 output := rfl
 size := by show _ ≤ (c.w.alloc o).heap.size; rw [V0]; omega
 keep := fun b hb _ => v6 _ _ _ hb
 mono := aQ6 h t ht x o hg
 Snew := fun _ h => .inl h
 img := fun k hl => by
  by_cases e : k = t
  ·exact .inl (by simp [Ctx.new, e])
  ·exact .inr ⟨k, Z7 hl e, by simp [Ctx.new, e]⟩
theorem bg6 {c : Ctx} (h : Inv c) (t : Tag) (ht : ¬ c.T t) (x : AObj) (o : Obj) (hg : ∀ r, x = .row r → r.gen = t ∧ r.ro = false)
  (hx : match x with
   | .row r => ∃ cells m, o = .cells cells r.elem m ∧ (r.plain = true → m = (0, 0)) ∧ (m.2 = 0 ∨ r.cs.length ≤ m.1) ∧ r.cs.length ≤ cells.size ∧ ∀ (j : Nat) (y : AV), r.cs[j]? = some y → ∃ u : Value, cells[j]? = some u ∧ u.oneCell' = true ∧ VR c y u
   | .map es => o = .map #[] 0 ∧ es = []) : Inv (c.new t x o) := by
 have m := aQ6 h t ht x o (fun r hr => (hg r hr).1)
 have hS : ¬ c.S c.w.heap.size := fun hs => by have := h.imm _ hs; omega
 refine ⟨fun b hb => ?_, fun k r hr => ?_, fun k es hes => ?_, fun k k' hl hl' e => ?_, h.gl.mono m.S m.blk⟩
 ·show b < (c.w.alloc o).heap.size
  rw [V0]
  have := h.imm b hb
  omega
 ·simp only [Ctx.new] at hr ⊢
  by_cases e : k = t
  ·subst e
   rw [f8] at hr
   injection hr with hr
   subst hr
   obtain ⟨cells, mk, rfl, hp, hm, hl, hc⟩ := hx
   obtain ⟨hg1, hg2⟩ := hg r rfl
   rw [if_pos rfl]
   refine ⟨.inr rfl, .inr hg1, fun hro => (by rw [hg2] at hro; cases hro), fun _ => hS, cells, mk, F0 _ _, hp, hm, hl, fun j y hj => ?_⟩
   obtain ⟨u, h1, h2, h3⟩ := hc j y hj
   exact ⟨u, h1, h2, h3.mono m⟩
  ·rw [B9 _ _ _ _ e] at hr
   obtain ⟨h1, h2, h3, h4, cells, mk, hc, hp, hm, hl, hcs⟩ := h.row k r hr
   rw [if_neg e]
   refine ⟨.inl h1, .inl h2, h3, h4, cells, mk, by rw [v6 _ _ _ (h.lt hr)]; exact hc, hp, hm, hl, fun j y hj => ?_⟩
   obtain ⟨u, h1, h2, h3⟩ := hcs j y hj
   exact ⟨u, h1, h2, h3.mono m⟩
 ·simp only [Ctx.new] at hes ⊢
  by_cases e : k = t
  ·subst e
   rw [f8] at hes
   injection hes with hes
   subst hes
   obtain ⟨rfl, rfl⟩ := hx
   rw [if_pos rfl]
   exact ⟨.inr rfl, hS, #[], 0, F0 _ _, rfl, fun j y e hj => by simp at hj⟩
  ·rw [B9 _ _ _ _ e] at hes
   obtain ⟨h1, h2, en, cl, hc, hl, hcs⟩ := h.map k es hes
   rw [if_neg e]
   refine ⟨.inl h1, h2, en, cl, by rw [v6 _ _ _ (h.lt hes)]; exact hc, hl, fun j y z hj hz => ?_⟩
   obtain ⟨a, b⟩ := hcs j y z hj hz
   exact ⟨a.mono m, b.mono m⟩
 ·by_cases e1 : k = t <;> by_cases e2 : k' = t
  ·rw [e1, e2]
  ·have hk' := Z7 hl' e2
   simp only [Ctx.new, e1, e2, if_true, if_false] at e
   obtain ⟨y, hy, _⟩ := hk'
   have := h.lt hy
   omega
  ·have hk := Z7 hl e1
   simp only [Ctx.new, e1, e2, if_true, if_false] at e
   obtain ⟨y, hy, _⟩ := hk
   have := h.lt hy
   omega
  ·simp only [Ctx.new, e1, e2, if_false] at e
   exact h.inj k k' (Z7 hl e1) (Z7 hl' e2) e
structure Wr (w w' : World) (g : Nat) (o : Obj) : Prop where
 os : w'.os = w.os
 tape : w'.tape = w.tape
 output : w'.output = w.output
 size : w'.heap.size = w.heap.size
 at_ : w'.heap[g]? = some o
 else_ : ∀ b, b ≠ g → w'.heap[b]? = w.heap[b]?
theorem N1 {c : Ctx} (h : Inv c) {k k' : Tag} (hl : aj2 c k) {o : AObj} (ho : c.H k' = some o) (e : k' ≠ k) : c.φ k' ≠ c.φ k := by
 intro he
 by_cases hr : o.ro = false
 ·exact e (h.inj k' k ⟨o, ho, hr⟩ hl he)
 ·have hro : o.ro = true := by simpa using hr
  cases o with
  | row r => exact h.live_not hl (he ▸ (h.row k' r ho).2.2.1 hro)
  | map es => cases hro
def Ctx.put (c : Ctx) (k : Tag) (x : AObj) (g : Tag) (w : World) : Ctx := { c with H := upd c.H k x, T := fun u => c.T u ∨ u = g, w := w }
theorem Z8 {c : Ctx} {k : Tag} {x : AObj} {g : Tag} {w : World} {t : Tag} (hk : aj2 c k) (hl : aj2 (c.put k x g w) t) : aj2 c t := by
 by_cases e : t = k
 ·exact e ▸ hk
 ·obtain ⟨y, hy, hr⟩ := hl
  simp only [Ctx.put, B9 _ _ _ _ e] at hy
  exact ⟨y, hy, hr⟩
section
variable {c : Ctx} {k g : Tag} {w : World} {o : Obj}
theorem aQ8 (h : Inv c) (hk : aj2 c k) (x : AObj) (hw : Wr c.w w (c.φ k) o) (m : Mono c (c.put k x g w)) : Step c (c.put k x g w) where
 os := hw.os
 tape := hw.tape
 output := hw.output
 size := by show _ ≤ w.heap.size; rw [hw.size]; exact Nat.le_refl _
 keep := fun b _ hl => hw.else_ b (fun e => hl k hk e.symm)
 mono := m
 Snew := fun _ h => .inl h
 img := fun t ht => .inr ⟨t, Z8 hk ht, rfl⟩
theorem bx8 (h : Inv c) {r : Row} (hr : c.H k = some (.row r)) (hro : r.ro = false) (cs : List AV) (hg : g = r.gen ∨ ¬ c.T g) {cells cells' : Array Value} {mk : Nat × Nat} (hc : c.w.heap[c.φ k]? = some (.cells cells r.elem mk))
  (hs : cells'.size = cells.size) (hw : Wr c.w w (c.φ k) (.cells cells' r.elem mk)) : Mono c (c.put k (.row { r with gen := g, cs := cs }) g w) := by
 have hk : aj2 c k := ⟨_, hr, hro⟩
 refine ⟨fun _ h => h, fun b hb => hw.else_ b (fun e => h.live_not hk (e ▸ hb)), fun _ h => .inl h, fun t r' hr' => ?_, fun t es' hes => ?_⟩
 ·simp only [Ctx.put] at hr' ⊢
  by_cases e : t = k
  ·subst e
   rw [f8] at hr'
   injection hr' with hr'
   injection hr' with hr'
   subst hr'
   rcases hg with hg | hg
   ·refine .inl ⟨r, hr, hg.symm, rfl, trivial, fun cl e' m' hcl => ?_⟩
    rw [hw.at_] at hcl
    injection hcl with hcl
    injection hcl with hcl
    exact ⟨cells, _, _, hc, by rw [← hcl, hs]; exact Nat.le_refl _⟩
   ·exact .inr hg
  ·rw [B9 _ _ _ _ e] at hr'
   refine .inl ⟨r', hr', rfl, rfl, trivial, fun cl e' m' hcl => ⟨cl, e', m', ?_, Nat.le_refl _⟩⟩
   rw [hw.else_ _ (N1 h hk hr' e)] at hcl
   exact hcl
 ·simp only [Ctx.put] at hes ⊢
  by_cases e : t = k
  ·subst e
   rw [f8] at hes
   injection hes with hes
   cases hes
  ·rw [B9 _ _ _ _ e] at hes
   exact .inl ⟨es', hes, trivial⟩
theorem bg7 (h : Inv c) {r : Row} (hr : c.H k = some (.row r)) (hro : r.ro = false) (cs : List AV) (hg : g = r.gen ∨ ¬ c.T g) {cells cells' : Array Value} {mk : Nat × Nat} (hc : c.w.heap[c.φ k]? = some (.cells cells r.elem mk))
  (hs : cells'.size = cells.size) (hw : Wr c.w w (c.φ k) (.cells cells' r.elem mk)) (hl : cs.length ≤ cells.size) (hp : r.plain = true → mk = (0, 0)) (hm : mk.2 = 0 ∨ cs.length ≤ mk.1)
  (hx : ∀ (j : Nat) (x : AV), cs[j]? = some x → ∃ u : Value, cells'[j]? = some u ∧ u.oneCell' = true ∧ VR c x u) :
  Inv (c.put k (.row { r with gen := g, cs := cs }) g w) ∧ Step c (c.put k (.row { r with gen := g, cs := cs }) g w) := by
 have hk : aj2 c k := ⟨_, hr, hro⟩
 have m := bx8 (w := w) h hr hro cs hg hc hs hw
 have rel : ∀ {cs' : List AV} {cl : Array Value}, (∀ (j : Nat) (x : AV), cs'[j]? = some x → ∃ u : Value, cl[j]? = some u ∧ u.oneCell' = true ∧ VR c x u) → ∀ (j : Nat) (x : AV), cs'[j]? = some x → ∃ u : Value, cl[j]? = some u ∧ u.oneCell' = true ∧ VR (c.put k (.row { r with gen := g, cs := cs }) g w) x u :=
  fun hh j x hj => by
   obtain ⟨u, h1, h2, h3⟩ := hh j x hj
   exact ⟨u, h1, h2, h3.mono m⟩
 refine ⟨⟨fun b hb => ?_, fun t r' hr' => ?_, fun t es hes => ?_, fun t t' ht ht' e => h.inj t t' (Z8 hk ht) (Z8 hk ht') e, h.gl.mono m.S m.blk⟩, aQ8 h hk _ hw m⟩
 ·show b < w.heap.size
  rw [hw.size]
  exact h.imm b hb
 ·by_cases e : t = k
  ·subst e
   have hr2 : (AObj.row { r with gen := g, cs := cs }) = .row r' := by
    have hr3 := hr'
    simp only [Ctx.put] at hr3
    rw [f8] at hr3
    injection hr3
   injection hr2 with hr2
   subst hr2
   obtain ⟨h1, h2, h3, h4, _⟩ := h.row t r hr
   refine ⟨.inl h1, .inr rfl, h3, h4, cells', mk, hw.at_, hp, hm, by rw [hs]; exact hl, rel hx⟩
  ·have hr2 : c.H t = some (.row r') := by
    have hr3 := hr'
    simp only [Ctx.put] at hr3
    rw [B9 _ _ _ _ e] at hr3
    exact hr3
   obtain ⟨h1, h2, h3, h4, cl, mk', hcl, hp', hm', hl', hx'⟩ := h.row t r' hr2
   refine ⟨.inl h1, .inl h2, h3, h4, cl, mk', ?_, hp', hm', hl', rel hx'⟩
   show w.heap[c.φ t]? = _
   rw [hw.else_ _ (N1 h hk hr2 e)]
   exact hcl
 ·have e : t ≠ k := by
   rintro rfl
   simp only [Ctx.put] at hes
   rw [f8] at hes
   injection hes with hes
   cases hes
  have hes2 : c.H t = some (.map es) := by
   have hr3 := hes
   simp only [Ctx.put] at hr3
   rw [B9 _ _ _ _ e] at hr3
   exact hr3
  obtain ⟨h1, h2, en, cl, hc', hl', hx'⟩ := h.map t es hes2
  refine ⟨.inl h1, h2, en, cl, ?_, hl', fun j y z hj hz => ?_⟩
  ·show w.heap[c.φ t]? = _
   rw [hw.else_ _ (N1 h hk hes2 e)]
   exact hc'
  ·obtain ⟨a, b⟩ := hx' j y z hj hz
   exact ⟨a.mono m, b.mono m⟩
theorem bN4 (h : Inv c) {es es' : List (AV × AV)} (hr : c.H k = some (.map es)) {en : Array MapEntry} {cl : Nat} (hw : Wr c.w w (c.φ k) (.map en cl)) (hl : en.size = es'.length)
  (hx : ∀ (j : Nat) (x : AV × AV) (e : MapEntry), es'[j]? = some x → en[j]? = some e → VR c x.1 e.key ∧ VR c x.2 e.val) :
  Inv (c.put k (.map es') k w) ∧ Step c (c.put k (.map es') k w) := by
 have hk : aj2 c k := ⟨_, hr, rfl⟩
 have m : Mono c (c.put k (.map es') k w) := by
  refine ⟨fun _ h => h, fun b hb => hw.else_ b (fun e => h.live_not hk (e ▸ hb)), fun _ h => .inl h, fun t r' hr' => ?_, fun t es2 hes => ?_⟩
  ·simp only [Ctx.put] at hr' ⊢
   by_cases e : t = k
   ·subst e
    rw [f8] at hr'
    injection hr' with hr'
    cases hr'
   ·rw [B9 _ _ _ _ e] at hr'
    refine .inl ⟨r', hr', rfl, rfl, trivial, fun cl e' m' hcl => ⟨cl, e', m', ?_, Nat.le_refl _⟩⟩
    rw [hw.else_ _ (N1 h hk hr' e)] at hcl
    exact hcl
  ·simp only [Ctx.put] at hes ⊢
   by_cases e : t = k
   ·exact .inl ⟨es, e ▸ hr, trivial⟩
   ·rw [B9 _ _ _ _ e] at hes
    exact .inl ⟨es2, hes, trivial⟩
 refine ⟨⟨fun b hb => ?_, fun t r' hr' => ?_, fun t es2 hes => ?_, fun t t' ht ht' e => h.inj t t' (Z8 hk ht) (Z8 hk ht') e, h.gl.mono m.S m.blk⟩, aQ8 h hk _ hw m⟩
 ·show b < w.heap.size
  rw [hw.size]
  exact h.imm b hb
 ·have e : t ≠ k := by
   rintro rfl
   simp only [Ctx.put] at hr'
   rw [f8] at hr'
   injection hr' with hr'
   cases hr'
  have hr2 : c.H t = some (.row r') := by
   have hr3 := hr'
   simp only [Ctx.put] at hr3
   rw [B9 _ _ _ _ e] at hr3
   exact hr3
  obtain ⟨h1, h2, h3, h4, cells, mk', hc, hp', hm', hl', hx'⟩ := h.row t r' hr2
  refine ⟨.inl h1, .inl h2, h3, h4, cells, mk', ?_, hp', hm', hl', fun j x hj => ?_⟩
  ·show w.heap[c.φ t]? = _
   rw [hw.else_ _ (N1 h hk hr2 e)]
   exact hc
  ·obtain ⟨u, h1, h2, h3⟩ := hx' j x hj
   exact ⟨u, h1, h2, h3.mono m⟩
 ·by_cases e : t = k
  ·subst e
   have hr2 : es' = es2 := by
    have hr3 := hes
    simp only [Ctx.put] at hr3
    rw [f8] at hr3
    injection hr3 with hr3
    injection hr3
   subst hr2
   obtain ⟨h1, h2, _⟩ := h.map t es hr
   refine ⟨.inl h1, h2, en, cl, hw.at_, hl, fun j y z hj hz => ?_⟩
   obtain ⟨a, b⟩ := hx j y z hj hz
   exact ⟨a.mono m, b.mono m⟩
  ·have hes2 : c.H t = some (.map es2) := by
    have hr3 := hes
    simp only [Ctx.put] at hr3
    rw [B9 _ _ _ _ e] at hr3
    exact hr3
   obtain ⟨h1, h2, en', cl', hc', hl', hx'⟩ := h.map t es2 hes2
   refine ⟨.inl h1, h2, en', cl', ?_, hl', fun j y z hj hz => ?_⟩
   ·show w.heap[c.φ t]? = _
    rw [hw.else_ _ (N1 h hk hes2 e)]
    exact hc'
   ·obtain ⟨a, b⟩ := hx' j y z hj hz
    exact ⟨a.mono m, b.mono m⟩
end
def Ctx.moved (c : Ctx) (k : Tag) (r : Row) (g : Tag) (o : Obj) : Ctx :=
 { S := c.S, φ := fun u => if u = k then c.w.heap.size else c.φ u, H := upd c.H k (.row r), T := fun u => c.T u ∨ u = g, w := c.w.alloc o }
theorem bx9 {c : Ctx} (h : Inv c) {k : Tag} {r : Row} (hr : c.H k = some (.row r)) (hro : r.ro = false) (r' : Row) (hg : ¬ c.T r'.gen) (hro' : r'.ro = false) (cells : Array Value)
  (hl : r'.cs.length ≤ cells.size) (hx : ∀ (j : Nat) (x : AV), r'.cs[j]? = some x → ∃ u : Value, cells[j]? = some u ∧ u.oneCell' = true ∧ VR c x u) :
  Inv (c.moved k r' r'.gen (.cells cells r'.elem (0, 0))) ∧ Step c (c.moved k r' r'.gen (.cells cells r'.elem (0, 0))) := by
 have hk : aj2 c k := ⟨_, hr, hro⟩
 have hS : ¬ c.S c.w.heap.size := fun hs => by have := h.imm _ hs; omega
 have hlive : ∀ t, aj2 (c.moved k r' r'.gen (.cells cells r'.elem (0, 0))) t → aj2 c t := fun t ht => by
  by_cases e : t = k
  ·exact e ▸ hk
  ·obtain ⟨y, hy, hr⟩ := ht
   simp only [Ctx.moved, B9 _ _ _ _ e] at hy
   exact ⟨y, hy, hr⟩
 have m : Mono c (c.moved k r' r'.gen (.cells cells r'.elem (0, 0))) := by
  refine ⟨fun _ h => h, fun b hb => v6 _ _ _ (h.imm b hb), fun _ h => .inl h, fun t r2 hr2 => ?_, fun t es hes => ?_⟩
  ·simp only [Ctx.moved] at hr2 ⊢
   by_cases e : t = k
   ·subst e
    rw [f8] at hr2
    injection hr2 with hr2
    injection hr2 with hr2
    subst hr2
    exact .inr hg
   ·rw [B9 _ _ _ _ e] at hr2
    refine .inl ⟨r2, hr2, rfl, rfl, if_neg e, fun cells' e' m hc => ⟨cells', e', m, ?_, Nat.le_refl _⟩⟩
    rw [if_neg e, v6 _ _ _ (h.lt hr2)] at hc
    exact hc
  ·simp only [Ctx.moved] at hes ⊢
   by_cases e : t = k
   ·subst e
    rw [f8] at hes
    injection hes with hes
    cases hes
   ·rw [B9 _ _ _ _ e] at hes
    exact .inl ⟨es, hes, if_neg e⟩
 have rel : ∀ {cs' : List AV} {cl : Array Value}, (∀ (j : Nat) (x : AV), cs'[j]? = some x → ∃ u : Value, cl[j]? = some u ∧ u.oneCell' = true ∧ VR c x u) → ∀ (j : Nat) (x : AV), cs'[j]? = some x → ∃ u : Value, cl[j]? = some u ∧ u.oneCell' = true ∧ VR (c.moved k r' r'.gen (.cells cells r'.elem (0, 0))) x u :=
  fun hh j x hj => by
   obtain ⟨u, h1, h2, h3⟩ := hh j x hj
   exact ⟨u, h1, h2, h3.mono m⟩
 refine ⟨⟨fun b hb => ?_, fun t r2 hr2 => ?_, fun t es hes => ?_, fun t t' ht ht' e => ?_, h.gl.mono m.S m.blk⟩, ⟨rfl, rfl, rfl, ?_, fun b hb _ => v6 _ _ _ hb, m, fun _ h => .inl h, fun t ht => ?_⟩⟩
 ·show b < (c.w.alloc _).heap.size
  rw [V0]
  have := h.imm b hb
  omega
 ·by_cases e : t = k
  ·subst e
   have hr3 : r' = r2 := by
    have hr3 := hr2
    simp only [Ctx.moved] at hr3
    rw [f8] at hr3
    injection hr3 with hr3
    injection hr3
   subst hr3
   obtain ⟨h1, _⟩ := h.row t r hr
   refine ⟨.inl h1, .inr rfl, fun hh => (by rw [hro'] at hh; cases hh), fun _ => ?_, cells, (0, 0), ?_, fun _ => rfl, .inl rfl, hl, rel hx⟩
   ·show ¬ c.S (if t = t then _ else _)
    rw [if_pos rfl]
    exact hS
   ·show (c.w.alloc _).heap[if t = t then _ else _]? = _
    rw [if_pos rfl]
    exact F0 _ _
  ·have hr3 : c.H t = some (.row r2) := by
    have hr3 := hr2
    simp only [Ctx.moved] at hr3
    rw [B9 _ _ _ _ e] at hr3
    exact hr3
   obtain ⟨h1, h2, h3, h4, cl, mk', hcl, hp', hm', hl', hx'⟩ := h.row t r2 hr3
   have hφ : (c.moved k r' r'.gen (.cells cells r'.elem (0, 0))).φ t = c.φ t := if_neg e
   rw [hφ]
   refine ⟨.inl h1, .inl h2, h3, h4, cl, mk', ?_, hp', hm', hl', rel hx'⟩
   show (c.w.alloc _).heap[c.φ t]? = _
   rw [v6 _ _ _ (h.lt hr3)]
   exact hcl
 ·have e : t ≠ k := by
   rintro rfl
   simp only [Ctx.moved] at hes
   rw [f8] at hes
   injection hes with hes
   cases hes
  have hes2 : c.H t = some (.map es) := by
   have hr3 := hes
   simp only [Ctx.moved] at hr3
   rw [B9 _ _ _ _ e] at hr3
   exact hr3
  obtain ⟨h1, h2, en, cl, hc', hl', hx'⟩ := h.map t es hes2
  have hφ : (c.moved k r' r'.gen (.cells cells r'.elem (0, 0))).φ t = c.φ t := if_neg e
  rw [hφ]
  refine ⟨.inl h1, h2, en, cl, ?_, hl', fun j y z hj hz => ?_⟩
  ·show (c.w.alloc _).heap[c.φ t]? = _
   rw [v6 _ _ _ (h.lt hes2)]
   exact hc'
  ·obtain ⟨a, b⟩ := hx' j y z hj hz
   exact ⟨a.mono m, b.mono m⟩
 ·have l1 := hlive t ht
  have l2 := hlive t' ht'
  by_cases e1 : t = k <;> by_cases e2 : t' = k
  ·rw [e1, e2]
  ·obtain ⟨y, hy, _⟩ := l2
   have := h.lt hy
   simp only [Ctx.moved, e1, e2, if_true, if_false] at e
   omega
  ·obtain ⟨y, hy, _⟩ := l1
   have := h.lt hy
   simp only [Ctx.moved, e1, e2, if_true, if_false] at e
   omega
  ·simp only [Ctx.moved, e1, e2, if_false] at e
   exact h.inj t t' l1 l2 e
 ·show _ ≤ (c.w.alloc _).heap.size
  rw [V0]
  omega
 ·by_cases e : t = k
  ·exact .inl (by show _ ≤ (if t = k then _ else _); rw [if_pos e]; exact Nat.le_refl _)
  ·exact .inr ⟨t, hlive t ht, by show _ = (if t = k then _ else _); rw [if_neg e]⟩
def Ctx.shut (c : Ctx) (ts : List Tag) : Ctx := { c with S := fun b => c.S b ∨ ∃ k r, k ∈ ts ∧ c.H k = some (.row r) ∧ c.φ k = b, H := C9 ts c.H }
theorem ad9 {ts : List Tag} {H : Tag → Option AObj} {k : Tag} {r' : Row} (h : C9 ts H k = some (.row r')) : ∃ r, H k = some (.row r) ∧ ((k ∈ ts ∧ r' = { r with ro := true }) ∨ (k ∉ ts ∧ r' = r)) := by
 unfold C9 at h
 cases ho : H k with
 | none => rw [ho] at h; cases h
 | some x =>
  rw [ho] at h
  cases x with
  | map es => cases h
  | row r =>
   dsimp only at h
   by_cases hk : ts.contains k = true
   ·rw [if_pos hk] at h
    injection h with h
    injection h with h
    exact ⟨r, rfl, .inl ⟨by simpa using hk, h.symm⟩⟩
   ·rw [if_neg hk] at h
    injection h with h
    injection h with h
    exact ⟨r, rfl, .inr ⟨by simpa using hk, h.symm⟩⟩
theorem J3 {ts : List Tag} {H : Tag → Option AObj} {k : Tag} {es : List (AV × AV)} (h : C9 ts H k = some (.map es)) : H k = some (.map es) := by
 unfold C9 at h
 cases ho : H k with
 | none => rw [ho] at h; cases h
 | some x =>
  rw [ho] at h
  cases x with
  | map es' => exact h
  | row r =>
   dsimp only at h
   split at h <;> (injection h with h; cases h)
theorem Z9 {c : Ctx} (h : Inv c) (ts : List Tag) : Inv (c.shut ts) ∧ Step c (c.shut ts) := by
 have m : Mono c (c.shut ts) := by
  refine ⟨fun _ h => .inl h, fun _ _ => rfl, fun _ h => h, fun k r' hr' => ?_, fun k es hes => .inl ⟨es, J3 hes, rfl⟩⟩
  obtain ⟨r, hr, hh⟩ := ad9 hr'
  refine .inl ⟨r, hr, ?_, ?_, rfl, fun cells e m hc => ⟨cells, e, m, hc, Nat.le_refl _⟩⟩ <;> rcases hh with ⟨_, rfl⟩ | ⟨_, rfl⟩ <;> rfl
 have hlive : ∀ t, aj2 (c.shut ts) t → aj2 c t ∧ (∀ r, c.H t = some (.row r) → t ∉ ts) := by
  rintro t ⟨y, hy, hr⟩
  cases y with
  | map es => exact ⟨⟨_, J3 hy, rfl⟩, fun r hr' => by rw [J3 hy] at hr'; cases hr'⟩
  | row r' =>
   obtain ⟨r, hr0, hh⟩ := ad9 hy
   rcases hh with ⟨_, rfl⟩ | ⟨hn, rfl⟩
   ·cases hr
   ·exact ⟨⟨_, hr0, hr⟩, fun _ _ => hn⟩
 refine ⟨⟨?_, fun k r' hr' => ?_, fun k es hes => ?_, fun k k' hk hk' e => h.inj k k' (hlive k hk).1 (hlive k' hk').1 e, h.gl.mono m.S m.blk⟩, ⟨rfl, rfl, rfl, Nat.le_refl _, fun _ _ _ => rfl, m, ?_, fun k hk => .inr ⟨k, (hlive k hk).1, rfl⟩⟩⟩
 ·rintro b (hb | ⟨k, r, _, hr, rfl⟩)
  ·exact h.imm b hb
  ·exact h.lt hr
 ·obtain ⟨r, hr, hh⟩ := ad9 hr'
  obtain ⟨h1, h2, h3, h4, cells, mk, hc, hp, hm, hl, hx⟩ := h.row k r hr
  have hx' : ∀ (j : Nat) (x : AV), r.cs[j]? = some x → ∃ u : Value, cells[j]? = some u ∧ u.oneCell' = true ∧ VR (c.shut ts) x u := fun j x hj => by
   obtain ⟨u, a, b, d⟩ := hx j x hj
   exact ⟨u, a, b, d.mono m⟩
  rcases hh with ⟨hk, rfl⟩ | ⟨hk, rfl⟩
  ·exact ⟨h1, h2, fun _ => .inr ⟨k, r, hk, hr, rfl⟩, fun hh => (by cases hh), cells, mk, hc, hp, hm, hl, hx'⟩
  ·refine ⟨h1, h2, fun hro => .inl (h3 hro), fun hro => ?_, cells, mk, hc, hp, hm, hl, hx'⟩
   rintro (hb | ⟨k', r'', hk', hr'', e⟩)
   ·exact h4 hro hb
   ·exact N1 h ⟨_, hr, hro⟩ hr'' (fun e' => hk (e' ▸ hk')) e
 ·obtain ⟨h1, h2, en, cl, hc, hl, hx⟩ := h.map k es (J3 hes)
  refine ⟨h1, ?_, en, cl, hc, hl, fun j y z hj hz => ?_⟩
  ·rintro (hb | ⟨k', r'', _, hr'', e⟩)
   ·exact h2 hb
   ·refine N1 h ⟨_, J3 hes, rfl⟩ hr'' (fun e' => ?_) e
    rw [e', J3 hes] at hr''
    cases hr''
  ·obtain ⟨a, b⟩ := hx j y z hj hz
   exact ⟨a.mono m, b.mono m⟩
 ·rintro b (hb | ⟨k, r, _, hr, rfl⟩)
  ·exact .inl hb
  ·cases hro : r.ro with
   | true => exact .inl ((h.row k r hr).2.2.1 hro)
   | false => exact .inr (.inr ⟨k, ⟨_, hr, hro⟩, rfl⟩)
end Go.Proofs.YtpmjpogcaglphaaDoor.A
namespace Go.Proofs.YtpmjpogcaglphaaDoor.A
open Go
section
variable {c : Ctx} {v : Value}
theorem VR.int_ {k : IntKind} {n : Int} (h : VR c (.int k n) v) : v = .int k n := by cases h with | data _ _ h => cases h; rfl
theorem VR.bool_ {b : Bool} (h : VR c (.bool b) v) : v = .bool b := by cases h with | data _ _ h => cases h; rfl
theorem VR.str_ {s : List UInt8} (h : VR c (.str s) v) : v = .string ⟨s.toArray⟩ := by cases h with | data _ _ h => cases h; rfl
theorem VR.nil_ (h : VR c .nil v) : v = .slice none 0 0 := by cases h with | data _ _ h => cases h; rfl
theorem VR.nilmp_ (h : VR c .nilmp v) : v = .map none := by cases h with | data _ _ h => cases h; rfl
theorem VR.agg_ {cs : List AV} (h : VR c (.agg cs) v) : ∃ vs : Array Value, v = .agg vs ∧ vs.size = cs.length ∧ (∀ (j : Nat) (x : AV) (u : Value), cs[j]? = some x → vs[j]? = some u → VR c x u) ∧ (∀ (j : Nat) (u : Value), vs[j]? = some u → u.oneCell' = true) := by
 cases h with
 | data _ _ h => cases h with | agg _ vs hl h h1 => exact ⟨vs, rfl, hl, fun j x u a b => .data _ _ (h j x u a b), h1⟩
 | agg _ vs hl h h1 => exact ⟨vs, rfl, hl, h, h1⟩
theorem VR.tup_ {cs : List AV} (h : VR c (.tup cs) v) : ∃ vs : Array Value, v = .tuple vs ∧ vs.size = cs.length ∧ (∀ (j : Nat) (x : AV) (u : Value), cs[j]? = some x → vs[j]? = some u → VR c x u) := by
 cases h with
 | data _ _ h => cases h with | tup _ vs hl h => exact ⟨vs, rfl, hl, fun j x u a b => .data _ _ (h j x u a b)⟩
 | tup _ vs hl h => exact ⟨vs, rfl, hl, h⟩
theorem VR.fn_ {f : Fn} {fs cs : List AV} (h : VR c (.fn f fs cs) v) : ∃ us vs : Array Value, v = .func f us vs ∧ us.size = fs.length ∧ vs.size = cs.length ∧ (∀ (j : Nat) (x : AV) (u : Value), fs[j]? = some x → us[j]? = some u → VR c x u) ∧ (∀ (j : Nat) (x : AV) (u : Value), cs[j]? = some x → vs[j]? = some u → VR c x u) := by
 cases h with
 | data _ _ h => cases h with | fn _ _ _ us vs hl hl' h h' => exact ⟨us, vs, rfl, hl, hl', fun j x u a b => .data _ _ (h j x u a b), fun j x u a b => .data _ _ (h' j x u a b)⟩
 | fn _ _ _ us vs hl hl' h h' => exact ⟨us, vs, rfl, hl, hl', h, h'⟩
theorem VR.sl_ {n : Nat} {cs : List AV} (h : VR c (.sl n cs) v) : ∃ A cap, v = .slice A n cap ∧ n ≤ cap ∧ (0 < n → ∃ a, A = some a) ∧ (cs ≠ [] → ∃ a, A = some a ∧ c.S a.block) ∧ (∀ (a : Addr) (j : Nat) (x : AV), A = some a → cs[j]? = some x → ∃ u : Value, c.w.cell? (a.add j) = some u ∧ u.oneCell' = true ∧ PR c.S c.w x u) := by
 cases h with
 | data _ _ h => cases h with | sl _ _ A cap u hn hA ha hc h1 h => exact ⟨A, cap, rfl, hn, hA, ha, fun a j x hA hx => ⟨u j, hc a j x hA hx, h1 j x hx, h j x hx⟩⟩
theorem VR.fptr_ {cs : List AV} (h : VR c (.fptr cs) v) : ∃ a : Addr, v = .pointer (some a) ∧ (cs ≠ [] → c.S a.block) ∧ (∀ (j : Nat) (x : AV), cs[j]? = some x → ∃ u : Value, c.w.cell? (a.add j) = some u ∧ u.oneCell' = true ∧ PR c.S c.w x u) := by
 cases h with
 | data _ _ h => cases h with | fptr _ a u ha hc h1 h => exact ⟨a, rfl, ha, fun j x hx => ⟨u j, hc j x hx, h1 j x hx, h j x hx⟩⟩
theorem VR.ref_ {k g : Tag} {off n : Nat} (h : VR c (.ref k g off n) v) : c.T k ∧ c.T g ∧ ∃ A cap, v = .slice A n cap ∧ n ≤ cap ∧ (off = 0 ∨ 0 < n → ∃ a, A = some a) ∧ ∀ r, W7 c.H k g = some r → (off = 0 ∨ 0 < n → A = some ⟨c.φ k, off, none⟩) ∧ (off = 0 → ∀ cells e m, c.w.heap[c.φ k]? = some (.cells cells e m) → cap * r.sz ≤ cells.size) := by
 cases h with
 | data _ _ h => cases h
 | ref _ _ _ _ A cap hk hg hn hA h =>
  refine ⟨hk, hg, A, cap, rfl, hn, hA, fun r hr => ?_⟩
  unfold W7 at hr
  split at hr
  ·rename_i r' hr'
   split at hr
   ·rename_i e
    injection hr with hr
    subst hr
    exact h r' hr' e
   ·cases hr
  ·cases hr
theorem VR.ptr_ {k g : Tag} {off : Nat} (h : VR c (.ptr k g off) v) : c.T k ∧ c.T g ∧ ∃ a, v = .pointer (some a) ∧ ∀ r, W7 c.H k g = some r → a = ⟨c.φ k, off, none⟩ := by
 cases h with
 | data _ _ h => cases h
 | ptr _ _ _ a hk hg h =>
  refine ⟨hk, hg, a, rfl, fun r hr => ?_⟩
  unfold W7 at hr
  split at hr
  ·rename_i r' hr'
   split at hr
   ·rename_i e
    exact h r' hr' e
   ·cases hr
  ·cases hr
theorem VR.mp_ {k : Tag} (h : VR c (.mp k) v) : c.T k ∧ v.oneCell' = true ∧ ∀ es, c.H k = some (.map es) → v = .map (some (c.φ k)) := by
 cases h with
 | data _ _ h => cases h
 | mp _ _ hk h1 h => exact ⟨hk, h1, h⟩
end
theorem K1 {H : Tag → Option AObj} {k g : Tag} {r : Row} (h : W7 H k g = some r) : H k = some (.row r) ∧ r.gen = g := by
 unfold W7 at h
 split at h
 ·rename_i r' hr'
  split at h
  ·rename_i e
   injection h with h
   subst h
   exact ⟨hr', e⟩
  ·cases h
 ·cases h
theorem VR.noV_ (c : Ctx) : VR c noV undef := .data _ _ (.tup [] #[] rfl (fun j x u h => by simp at h))
theorem VR.int (c : Ctx) (k n) : VR c (.int k n) (.int k n) := .data _ _ (.int k n)
theorem VR.bool (c : Ctx) (b) : VR c (.bool b) (.bool b) := .data _ _ (.bool b)
theorem VR.str (c : Ctx) (s) : VR c (.str s) (.string ⟨s.toArray⟩) := .data _ _ (.str s)
theorem bg8 {u : Value} (h : u.oneCell' = true) : u.cells = #[u] := by cases u <;> first | rfl | (simp [Value.oneCell'] at h)
theorem VR.one {c : Ctx} {x : AV} {v : Value} (h : VR c x v) (hc : n9 x = true) : v.oneCell' = true := by
 cases h with
 | data _ _ h => cases h <;> first | rfl | (simp [n9] at hc)
 | agg => simp [n9] at hc
 | tup => simp [n9] at hc
 | fn => rfl
 | ref => rfl
 | ptr => rfl
 | mp _ _ _ h1 => exact h1
theorem VR.cells {c : Ctx} {x : AV} {v : Value} (h : VR c x v) (hc : x.cells.all n9 = true) : v.cells.size = x.cells.length ∧ ∀ (j : Nat) (y : AV) (u : Value), x.cells[j]? = some y → v.cells[j]? = some u → VR c y u ∧ u.oneCell' = true := by
 by_cases ha : ∃ cs, x = .agg cs
 ·obtain ⟨cs, rfl⟩ := ha
  obtain ⟨vs, rfl, hl, hh, h1⟩ := h.agg_
  exact ⟨hl, fun j y u hy hu => ⟨hh j y u hy hu, h1 j u hu⟩⟩
 ·have e : x.cells = [x] := by cases x <;> first | rfl | exact absurd ⟨_, rfl⟩ ha
  rw [e] at hc ⊢
  have h1 := h.one (by simpa using hc)
  rw [bg8 h1]
  refine ⟨rfl, fun j y u hy hu => ?_⟩
  cases j with
  | zero =>
   simp at hy hu
   subst hy; subst hu
   exact ⟨h, h1⟩
  | succ j => simp at hy
theorem ae0 {v : Value} {x : AV} (h : aC5 v = some x) (S : Nat → Prop) (w : World) : PR S w x v ∧ v.oneCell' = true ∧ n9 x = true := by
 unfold aC5 at h
 split at h <;> first | (injection h with h; subst h; first | exact ⟨.bool _, rfl, rfl⟩ | exact ⟨.int _ _, rfl, rfl⟩ | exact ⟨.nil, rfl, rfl⟩ | exact ⟨.nilmp, rfl, rfl⟩ | exact ⟨.nilp, rfl, rfl⟩ | skip) | skip
 ·rename_i s
  exact ⟨by have := PR.str (S := S) (w := w) s.data.toList; simpa using this, rfl, rfl⟩
 ·rename_i f a b
  split at h
  ·rename_i hs
   injection h with h
   subst h
   exact ⟨.fn _ _ _ _ _ (by simp [hs.1]) (by simp [hs.2]) (fun j x u hx => by simp at hx) (fun j x u hx => by simp at hx), rfl, rfl⟩
  ·cases h
 ·cases h
theorem Y0 : ∀ {vs : List Value} {xs : List AV}, N3 vs = some xs → ∀ (S : Nat → Prop) (w : World), vs.length = xs.length ∧ ∀ (j : Nat) (x : AV) (u : Value), xs[j]? = some x → vs[j]? = some u → PR S w x u ∧ u.oneCell' = true ∧ n9 x = true
 | [], xs, h, S, w => by
  simp only [N3] at h
  injection h with h
  subst h
  exact ⟨rfl, fun j x u hx => by simp at hx⟩
 | v :: vs, xs, h, S, w => by
  simp only [N3] at h
  split at h
  ·rename_i x xs' hx hxs
   injection h with h
   subst h
   obtain ⟨hl, hh⟩ := Y0 hxs S w
   refine ⟨by simp [hl], fun j y u hy hu => ?_⟩
   cases j with
   | zero =>
    simp at hy hu
    subst hy; subst hu
    exact ae0 hx S w
   | succ j =>
    simp at hy hu
    exact hh j y u hy hu
  ·cases h
theorem aK6 {v : Value} {x : AV} (h : aK1 v = some x) (S : Nat → Prop) (w : World) : PR S w x v := by
 unfold aK1 at h
 split at h
 ·rename_i cs
  cases hc : N3 cs.toList with
  | none => rw [hc] at h; cases h
  | some xs =>
   rw [hc] at h
   simp only [Option.map_some] at h
   injection h with h
   subst h
   obtain ⟨hl, hh⟩ := Y0 hc S w
   refine .agg _ _ (by simpa using hl) (fun j x u hx hu => (hh j x u hx (by simpa using hu)).1) (fun j u hu => ?_)
   have hj : j < cs.size := (Array.getElem?_eq_some_iff.1 hu).1
   have hj' : j < xs.length := by rw [← hl]; simpa using hj
   exact (hh j _ u (List.getElem?_eq_getElem hj') (by simpa using hu)).2.1
 ·split at h
  ·rename_i vs hs
   injection h with h
   subst h
   exact .tup _ _ (by simp [hs]) (fun j x u hx => by simp at hx)
  ·cases h
 ·exact (ae0 h S w).1
structure AR (c : Ctx) (a : n8) (ca : Act) : Prop where
 defers : ca.defers = []
 slot : ∀ t, VR c (a t) (ca.tmps.getD t undef)
theorem AR.mono {c c' : Ctx} (m : Mono c c') {a : n8} {ca : Act} (h : AR c a ca) : AR c' a ca := ⟨h.defers, fun t => (h.slot t).mono m⟩
theorem o9 {c : Ctx} {a : n8} {ca : Act} (h : AR c a ca) {x : Operand} {v : AV} (hv : opd a x = some v) : VR c v (ca.eval x) := by
 cases x with
 | tmp t => simp only [opd] at hv; injection hv with hv; subst hv; exact h.slot t
 | const u => exact .data _ _ (aK6 hv _ _)
 | global g => cases hv
 | func f =>
  simp only [opd] at hv
  injection hv with hv
  subst hv
  exact .data _ _ (.fn _ _ _ #[] #[] rfl rfl (fun j x u hx => by simp at hx) (fun j x u hx => by simp at hx))
theorem AR.put {c : Ctx} {a : n8} {ca : Act} (h : AR c a ca) (d : Option Nat) (hd : ∀ t, d = some t → t < ca.tmps.size) {v : AV} {u : Value} (hv : VR c v u) : AR c (J7 a d v) (ca.put d u) := by
 cases d with
 | none => exact h
 | some t =>
  have ht := hd t rfl
  refine ⟨h.defers, fun s => ?_⟩
  simp only [J7, A.put, Act.put]
  by_cases e : s = t
  ·subst e
   rw [if_pos rfl]
   simp only [Array.getD_eq_getD_getElem?, Array.getElem?_setIfInBounds_self_of_lt ht, Option.getD_some]
   exact hv
  ·rw [if_neg e]
   simp only [Array.getD_eq_getD_getElem?, Array.getElem?_setIfInBounds_ne (Ne.symm e)]
   have := h.slot s
   simpa only [Array.getD_eq_getD_getElem?] using this
theorem aQ9 (ca : Act) (d : Option Nat) (u : Value) : (ca.put d u).tmps.size = ca.tmps.size := by cases d <;> simp [Act.put]
section
variable {P : Program} {c : Ctx}
theorem V1 {t : TypeId} {b : Bool} (h : G9 P t = some b) (w : World) : (isAgg t).run P w = .ok b w := by
 unfold G9 at h
 split at h
 ·rename_i hu
  injection h with h; subst h; simp [isAgg, run_underlying hu]
 ·rename_i hu
  injection h with h; subst h; simp [isAgg, run_underlying hu]
 ·rename_i hu
  injection h with h; subst h
  rename_i d h1 h2
  revert h1 h2 hu
  cases d <;> intro h1 h2 hu <;> first | (simp [isAgg, run_underlying hu]; done) | exact absurd rfl (h1 _) | exact absurd rfl (h2 _ _)
 ·cases h
theorem V2 {t : TypeId} {n : Nat} (h : l9 P t = some n) : ∃ i, P.info? t = some i ∧ i.size = n := by
 unfold l9 at h
 cases hi : P.info? t with
 | none => rw [hi] at h; cases h
 | some i => rw [hi] at h; simp at h; exact ⟨i, rfl, h⟩
theorem w9 {t : TypeId} {n : Nat} (h : l9 P t = some n) (w : World) : (sizeOf t).run P w = .ok n w := by
 obtain ⟨i, hi, rfl⟩ := V2 h
 simp [sizeOf, typeInfo, hi]
theorem aR0 {t : TypeId} {a : Addr} {cs : List AV} {x : AV} (hcs : ∀ (j : Nat) (y : AV), cs[j]? = some y → ∃ u : Value, c.w.cell? (a.add j) = some u ∧ u.oneCell' = true ∧ VR c y u) (h : O4 P t cs = some x) :
  ∃ v, (loadVar t a).run P c.w = .ok v c.w ∧ VR c x v := by
 unfold O4 at h
 split at h
 ·rename_i b n hb hn
  cases b with
  | true =>
   simp only [M5] at h
   split at h
   ·rename_i hle
    injection h with h
    subst h
    have hex : ∀ j, ∃ u : Value, j < n → c.w.cell? (a.add j) = some u ∧ u.oneCell' = true ∧ ∀ y, cs[j]? = some y → VR c y u := fun j => by
     by_cases hj : j < n
     ·obtain ⟨u, h1, h2, h3⟩ := hcs j _ (List.getElem?_eq_getElem (show j < cs.length by omega))
      exact ⟨u, fun _ => ⟨h1, h2, fun y hy => by rw [List.getElem?_eq_getElem (show j < cs.length by omega)] at hy; injection hy with hy; subst hy; exact h3⟩⟩
     ·exact ⟨undef, fun h => absurd h hj⟩
    have hf := Classical.axiomOfChoice hex
    obtain ⟨f, hf⟩ := hf
    have hr := run_loadCells (P := P) c.w a n f (fun j hj => (hf j hj).1)
    refine ⟨.agg ((List.range n).map f).toArray, ?_, .agg _ _ (by simp; omega) (fun j y u hy hu => ?_) (fun j u hu => ?_)⟩
    ·simp only [loadVar, Sem.run_bind, V1 hb, w9 hn, Result.andThen_ok, if_true, hr, Sem.run_pure]
    ·have hj : j < n := by have := (List.getElem?_eq_some_iff.1 hy).1; simp at this; omega
     rw [List.getElem?_take, if_pos hj] at hy
     have : u = f j := by simpa [hj] using hu.symm
     rw [this]
     exact (hf j hj).2.2 y hy
    ·have hj : j < n := by have := (Array.getElem?_eq_some_iff.1 hu).1; simpa using this
     have : u = f j := by simpa [hj] using hu.symm
     rw [this]
     exact (hf j hj).2.1
   ·cases h
  | false =>
   cases cs with
   | nil => cases h
   | cons y ys =>
    simp only [M5] at h
    injection h with h
    subst h
    obtain ⟨u, h1, _, h3⟩ := hcs 0 y rfl
    have h1' : c.w.cell? a = some u := by simpa [Addr.add] using h1
    refine ⟨u, ?_, h3⟩
    simp only [loadVar, Sem.run_bind, V1 hb, Result.andThen_ok, Bool.false_eq_true, if_false, run_load, h1']
 ·cases h
end
theorem H5 (b o n : Nat) : (⟨b, o, none⟩ : Addr).add n = ⟨b, o + n, none⟩ := by
 unfold Addr.add
 split
 ·subst_vars; rfl
 ·rfl
theorem S5 {c : Ctx} (h : Inv c) {k : Tag} {r : Row} (hr : c.H k = some (.row r)) (off : Nat) : ∀ (j : Nat) (y : AV), (r.cs.drop off)[j]? = some y → ∃ u : Value, c.w.cell? ((⟨c.φ k, off, none⟩ : Addr).add j) = some u ∧ u.oneCell' = true ∧ VR c y u := by
 intro j y hy
 obtain ⟨_, _, _, _, cells, mk, hc, _, _, hl, hx⟩ := h.row k r hr
 rw [List.getElem?_drop] at hy
 obtain ⟨u, h1, h2, h3⟩ := hx _ y hy
 refine ⟨u, ?_, h2, h3⟩
 rw [H5]
 simp [World.cell?, hc, h1]
theorem aD0 {P : Program} {c : Ctx} (hI : Inv c) {t : TypeId} {p v : AV} {pv : Value} {H : AH} (hH : c.H = H.o) (hp : VR c p pv) (h : N4 P t p H = some v) :
  ∃ cv, (Instr.loadAt t pv).run P c.w = .ok cv c.w ∧ VR c v cv := by
 unfold N4 at h
 split at h
 ·rename_i k g off
  split at h
  ·rename_i r hr
   rw [← hH] at hr
   obtain ⟨_, _, _, rfl, hv⟩ := hp.ptr_
   obtain rfl := hv r hr
   obtain ⟨cv, h1, h2⟩ := aR0 (P := P) (S5 hI (K1 hr).1 off) h
   exact ⟨cv, by simp [Instr.loadAt, Instr.sureAddr, h1], h2⟩
  ·cases h
 ·obtain ⟨a, rfl, _, hc⟩ := hp.fptr_
  obtain ⟨cv, h1, h2⟩ := aR0 (P := P) (c := c) (fun j y hy => by obtain ⟨u, a1, a2, a3⟩ := hc j y hy; exact ⟨u, a1, a2, .data _ _ a3⟩) h
  exact ⟨cv, by simp [Instr.loadAt, Instr.sureAddr, h1], h2⟩
 ·cases h
theorem ak9 {P : Program} : ∀ (vs : List Value) (i : Nat) (w : World) (g o : Nat) (cur : Array Value) (t : TypeId) (m : Nat × Nat), w.heap[g]? = some (.cells cur t m) → o + i + vs.length ≤ cur.size → (∀ v ∈ vs, v.oneCell' = true) → (m.2 ≤ o + i ∨ o + i + vs.length ≤ m.1) →
  ∃ w' cur', (storeCells ⟨g, o, none⟩ vs i).run P w = .ok () w' ∧ Wr w w' g (.cells cur' t m) ∧ cur'.size = cur.size ∧ ∀ j, cur'[j]? = if o + i ≤ j ∧ j < o + i + vs.length then vs[j - (o + i)]? else cur[j]?
 | [], i, w, g, o, cur, t, m, hg, _, _, _ => ⟨w, cur, rfl, ⟨rfl, rfl, rfl, rfl, hg, fun _ _ => rfl⟩, rfl, fun j => by rw [if_neg (by simp only [List.length_nil]; omega)]⟩
 | v :: vs, i, w, g, o, cur, t, m, hg, hfit, hone, hm => by
  have hv : v.oneCell' = true := hone v List.mem_cons_self
  have hlt : o + i < cur.size := by simp only [List.length_cons] at hfit; omega
  have hcell : w.cell? ⟨g, o + i, none⟩ = some (cur[o + i]'hlt) := by simp [World.cell?, hg, hlt]
  have hfr : w.frozen? ⟨g, o + i, none⟩ = false := by
   simp only [World.frozen?, hg]
   simp only [List.length_cons] at hm
   rcases hm with hm | hm
   ·simp; omega
   ·simp; omega
  have hst : (store ((⟨g, o, none⟩ : Addr).add i) v).run P w = .ok () (w.setCell ⟨g, o + i, none⟩ v) := by
   rw [H5, run_store P w _ v _ hv, hcell]
   simp [hfr]
  have hw1 : (w.setCell ⟨g, o + i, none⟩ v).heap[g]? = some (.cells (cur.setIfInBounds (o + i) v) t m) := by
   simp [World.setCell, Array.getElem?_modify, hg]
  obtain ⟨w', cur', hr, hw, hs, hc⟩ := ak9 (P := P) vs (i + 1) (w.setCell ⟨g, o + i, none⟩ v) g o (cur.setIfInBounds (o + i) v) t m hw1 (by simp only [Array.size_setIfInBounds, List.length_cons] at *; omega) (fun u hu => hone u (List.mem_cons_of_mem _ hu)) (by simp only [List.length_cons] at hm; omega)
  refine ⟨w', cur', ?_, ⟨hw.os, hw.tape, hw.output, hw.size.trans (by simp [World.setCell]), hw.at_, fun b hb => (hw.else_ b hb).trans (RowKit.Below.heap_setCell w _ v b hb)⟩, by rw [hs]; simp, fun j => ?_⟩
  ·simp only [storeCells, Sem.run_bind, hst, Result.andThen_ok, hr]
  ·rw [hc j]
   simp only [List.length_cons]
   by_cases h1 : o + (i + 1) ≤ j ∧ j < o + (i + 1) + vs.length
   ·rw [if_pos h1, if_pos (by omega)]
    rw [show j - (o + i) = (j - (o + (i + 1))) + 1 by omega]
    simp
   ·rw [if_neg h1]
    by_cases h2 : j = o + i
    ·subst h2
     rw [if_pos (by omega)]
     simp [hlt]
    ·rw [if_neg (by omega), Array.getElem?_setIfInBounds_ne (by omega)]
end Go.Proofs.YtpmjpogcaglphaaDoor.A
namespace Go.Proofs.YtpmjpogcaglphaaDoor.A
open Go
theorem ae1 (s : List UInt8) : (⟨s.toArray⟩ : ByteArray).toList = s := by rw [ByteArray.toList_eq]
theorem I5 (s : List UInt8) : (⟨s.toArray⟩ : ByteArray).size = s.length := by simp [ByteArray.size]
def Says (P : Program) (c : Ctx) (s : Sem Value) (v : AV) : Prop := ∃ cv, s.run P c.w = .ok cv c.w ∧ VR c v cv
section
variable {P : Program} {c : Ctx}
theorem aR1 {op : BinOp} {k : IntKind} {x y : Int} {v : AV} (h : ak6 op k x y = some v) : Says P c (Op.intBits op k x y) v := by
 unfold ak6 at h
 cases op <;> dsimp only at h <;> first | (injection h with h; subst h; exact ⟨_, rfl, VR.int ..⟩) | (exact absurd h (by simp))
theorem bN5 {op : BinOp} {t : TypeId} {k : IntKind} {x y : Int} {v : AV} (hs : op ≠ .shl) (hs' : op ≠ .shr) (h : aK0 op k x y = some v) : Says P c (binOp op t (.int k x) (.int k y)) v := by
 unfold aK0 at h
 cases op <;> dsimp only at h
 case shl => exact absurd rfl hs
 case shr => exact absurd rfl hs'
 case quo | rem =>
  split at h
  ·cases h
  ·rename_i hy
   injection h with h; subst h
   refine ⟨_, ?_, VR.int ..⟩
   simp [binOp, Op.intDiv, hy]
 case and | or | xor | andNot =>
  obtain ⟨cv, h1, h2⟩ := aR1 (P := P) (c := c) h
  exact ⟨cv, by simpa [binOp] using h1, h2⟩
 case add | sub | mul =>
  injection h with h; subst h
  refine ⟨_, ?_, VR.int ..⟩
  simp [binOp, Op.intArith]
 all_goals
  injection h with h; subst h
  refine ⟨_, ?_, VR.bool ..⟩
  simp [binOp, Op.intCmp]
theorem aD1 {op : BinOp} {t : TypeId} {k k' : IntKind} {x y : Int} {v : AV} (hs : op = .shl ∨ op = .shr) (h : ag4 op k x y = some v) : Says P c (binOp op t (.int k x) (.int k' y)) v := by
 unfold ag4 at h
 split at h
 ·cases h
 ·rename_i hy
  rcases hs with rfl | rfl
  all_goals
   dsimp only at h
   injection h with h; subst h
   refine ⟨_, ?_, VR.int ..⟩
   simp [binOp, Op.shift, hy]
theorem bg9 {op : BinOp} {t : TypeId} {x y : List UInt8} {v : AV} (h : ca8 op x y = some v) : Says P c (binOp op t (.string ⟨x.toArray⟩) (.string ⟨y.toArray⟩)) v := by
 unfold ca8 at h
 cases op <;> dsimp only at h
 case add =>
  split at h
  ·rename_i hl
   injection h with h; subst h
   refine ⟨.string ⟨(x ++ y).toArray⟩, ?_, VR.str ..⟩
   have hb : binOp .add t (.string ⟨x.toArray⟩) (.string ⟨y.toArray⟩) = Op.stringOp .add ⟨x.toArray⟩ ⟨y.toArray⟩ := by simp [binOp]
   rw [hb, run_string_add_sum _ _ _ (by rw [I5, I5]; exact hl), ByteArray.mk_append_mk]
  ·cases h
 case eql | neq | lss | leq | gtr | geq =>
  injection h with h; subst h
  refine ⟨_, ?_, VR.bool ..⟩
  simp [binOp, Op.stringOp, ae1]
 all_goals exact absurd h (by simp)
theorem cg2 {op : UnOp} {x v : AV} {xv : Value} (hx : VR c x xv) (h : aUn op x = some v) : Says P c (Op.unary op xv) v := by
 unfold aUn at h
 split at h
 ·obtain rfl := hx.int_
  injection h with h; subst h
  exact ⟨_, rfl, VR.int ..⟩
 ·obtain rfl := hx.int_
  obtain ⟨cv, h1, h2⟩ := aR1 (P := P) (c := c) h
  exact ⟨cv, h1, h2⟩
 ·obtain rfl := hx.bool_
  injection h with h; subst h
  exact ⟨_, rfl, VR.bool ..⟩
 ·cases h
theorem ae2 {l : Leaf} {x y : AV} {b : Bool} {xv yv : Value} (hx : VR c x xv) (hy : VR c y yv) (h : as9 l x y = some b) :
  (l = .int ∧ ∃ k m n, xv = .int k m ∧ yv = .int k n ∧ b = (m == n)) ∨ (l = .bool ∧ ∃ m n, xv = .bool m ∧ yv = .bool n ∧ b = (m == n)) ∨ (l = .str ∧ ∃ m n : ByteArray, xv = .string m ∧ yv = .string n ∧ b = (m == n)) := by
 unfold as9 at h
 split at h
 ·obtain rfl := hx.int_
  obtain rfl := hy.int_
  split at h
  ·rename_i e
   subst e
   injection h with h
   exact .inl ⟨rfl, _, _, _, rfl, rfl, h.symm⟩
  ·cases h
 ·obtain rfl := hx.bool_
  obtain rfl := hy.bool_
  injection h with h
  exact .inr (.inl ⟨rfl, _, _, rfl, rfl, h.symm⟩)
 ·obtain rfl := hx.str_
  obtain rfl := hy.str_
  injection h with h
  refine .inr (.inr ⟨rfl, _, _, rfl, rfl, ?_⟩)
  rw [beq_toListBytes, ae1, ae1]
  exact h.symm
 ·cases h
theorem Y1 : ∀ {ls : List Leaf} {xs ys : List AV} {b : Bool}, u7 ls xs ys = some b → xs.length = ls.length ∧ ys.length = ls.length
 | [], [], [], _, _ => ⟨rfl, rfl⟩
 | [], [], _ :: _, _, h => by cases h
 | [], _ :: _, _, _, h => by cases h
 | _ :: _, [], _, _, h => by cases h
 | _ :: _, _ :: _, [], _, h => by cases h
 | l :: ls, x :: xs, y :: ys, b, h => by
  simp only [u7] at h
  split at h
  ·rename_i h2
   have := Y1 h2
   simp [this]
  ·cases h
theorem N7 : ∀ {l l' : List Leaf} {xs ys : List AV} {b : Bool}, u7 (l ++ l') xs ys = some b → ∃ b1 b2, u7 l (xs.take l.length) (ys.take l.length) = some b1 ∧ u7 l' (xs.drop l.length) (ys.drop l.length) = some b2 ∧ b = (b1 && b2)
 | [], l', xs, ys, b, h => ⟨true, b, rfl, h, rfl⟩
 | l :: ls, l', xs, ys, b, h => by
  cases xs with
  | nil => cases h
  | cons x xs =>
   cases ys with
   | nil => cases h
   | cons y ys =>
    simp only [List.cons_append, u7] at h
    split at h
    ·rename_i a1 a2 h1 h2
     injection h with h
     obtain ⟨b1, b2, e1, e2, e3⟩ := N7 h2
     exact ⟨a1 && b1, b2, by simp [u7, h1, e1], by simpa using e2, by rw [← h, e3, Bool.and_assoc]⟩
    ·cases h
def Cells (c : Ctx) (xs : List AV) (vs : Array Value) : Prop := vs.size = xs.length ∧ ∀ (j : Nat) (x : AV) (u : Value), xs[j]? = some x → vs[j]? = some u → VR c x u
theorem Cells.extract {xs : List AV} {vs : Array Value} (h : Cells c xs vs) (off n : Nat) (hn : off + n ≤ xs.length) : Cells c ((xs.drop off).take n) (vs.extract off (off + n)) := by
 have := h.1
 refine ⟨by simp; omega, fun j x u hx hu => h.2 (off + j) x u ?_ ?_⟩
 ·have hj : j < n := by have := (List.getElem?_eq_some_iff.1 hx).1; simp at this; omega
  rwa [List.getElem?_take, if_pos hj, List.getElem?_drop] at hx
 ·have hj : j < n := by have := (Array.getElem?_eq_some_iff.1 hu).1; simp at this; omega
  rw [Array.getElem?_extract] at hu
  split at hu
  ·exact hu
  ·cases hu
def TV (P : Program) (c : Ctx) (t : TypeId) (xs : List AV) (v : Value) : Prop :=
 (G9 P t = some true ∧ ∃ vs, v = .agg vs ∧ Cells c xs vs) ∨ (G9 P t = some false ∧ ∃ x, xs = [x] ∧ VR c x v)
theorem by0 {xs : List AV} {off : Nat} {x : AV} (h : xs[off]? = some x) : (xs.drop off).take 1 = [x] := by
 have hlt := (List.getElem?_eq_some_iff.1 h).1
 rw [List.drop_eq_getElem_cons hlt]
 have := (List.getElem?_eq_some_iff.1 h).2
 simp [this]
theorem ae3 {t : TypeId} {xs : List AV} {vs : Array Value} (h : Cells c xs vs) {off n : Nat} {b : Bool} (hb : G9 P t = some b) (hn : l9 P t = some n) (hfit : off + n ≤ xs.length) (hone : b = false → n = 1) (w : World) :
  ∃ v, (part t vs off).run P w = .ok v w ∧ TV P c t ((xs.drop off).take n) v := by
 cases b with
 | true => exact ⟨_, by simp only [part, Sem.run_bind, V1 hb, w9 hn, Result.andThen_ok, if_true, Sem.run_pure], .inl ⟨hb, _, rfl, h.extract off n hfit⟩⟩
 | false =>
  have h1 := hone rfl
  subst h1
  have hlt : off < vs.size := by have := h.1; omega
  have hx : xs[off]? = some (xs[off]'(by omega)) := List.getElem?_eq_getElem (by omega)
  refine ⟨vs[off], by simp [part, V1 hb, hlt], .inr ⟨hb, _, by0 hx, h.2 off _ _ hx (by simp [hlt])⟩⟩
def bN6 (P : Program) (d : Nat) (t : TypeId) (ls : List Leaf) : Prop :=
 l9 P t = some ls.length ∧ (∃ b, G9 P t = some b ∧ (b = false → ls.length = 1)) ∧
 ∀ D, d ≤ D → ∀ (c : Ctx) (xs ys : List AV) (xv yv : Value) (r : Bool) (w : World), TV P c t xs xv → TV P c t ys yv → u7 ls xs ys = some r → (Op.equalIn D t xv yv).run P w = .ok r w
theorem al0 {d : Nat} {e : TypeId} {l : List Leaf} (IH : bN6 P d e l) {D : Nat} (hD : d ≤ D) (w : World) : ∀ (m i : Nat) (xs ys : List AV) (xv yv : Array Value) (r : Bool), Cells c xs xv → Cells c ys yv → i * l.length + m * l.length ≤ xs.length → i * l.length + m * l.length ≤ ys.length →
  u7 (bK1 l m) ((xs.drop (i * l.length)).take (m * l.length)) ((ys.drop (i * l.length)).take (m * l.length)) = some r → (Op.eqItems D e l.length xv yv (List.range' i m)).run P w = .ok r w
 | 0, i, xs, ys, xv, yv, r, _, _, _, _, h => by
  simp [bK1, u7] at h
  subst h
  simp [Op.eqItems]
 | m + 1, i, xs, ys, xv, yv, r, hx, hy, hfx, hfy, h => by
  obtain ⟨hs, ⟨b, hb, hone⟩, heq⟩ := IH
  rw [Nat.succ_mul] at hfx hfy h
  simp only [bK1] at h
  obtain ⟨b1, b2, e1, e2, rfl⟩ := N7 h
  rw [List.take_take, List.take_take, Nat.min_eq_left (by omega)] at e1
  rw [List.drop_take, List.drop_take, List.drop_drop, List.drop_drop, Nat.add_sub_cancel, ← Nat.succ_mul, Nat.succ_eq_add_one] at e2
  obtain ⟨u, p1, t1⟩ := ae3 (P := P) hx (off := i * l.length) hb hs (by omega) hone w
  obtain ⟨v, p2, t2⟩ := ae3 (P := P) hy (off := i * l.length) hb hs (by omega) hone w
  have p3 := heq D hD c _ _ u v b1 w t1 t2 e1
  have ih := al0 ⟨hs, ⟨b, hb, hone⟩, heq⟩ hD w m (i + 1) xs ys xv yv b2 hx hy (by rw [Nat.succ_mul]; omega) (by rw [Nat.succ_mul]; omega) e2
  rw [List.range'_succ]
  simp only [Op.eqItems, Sem.run_bind, p1, p2, p3, Result.andThen_ok]
  cases b1
  ·simp
  ·simpa using ih
theorem ag6 {d D : Nat} (hD : d ≤ D) (IH : ∀ t ls, ai4 P d t = some ls → bN6 P d t ls) (w : World) : ∀ (fs : List Field) (off : Nat) (ls : List Leaf) (xs ys : List AV) (xv yv : Array Value) (r : Bool), ai4.fieldLeafs (ai4 P d) (l9 P) fs off = some ls → Cells c xs xv → Cells c ys yv → off + ls.length = xs.length → off + ls.length = ys.length →
  u7 ls (xs.drop off) (ys.drop off) = some r → (Op.eqFields D xv yv fs).run P w = .ok r w
 | [], off, ls, xs, ys, xv, yv, r, h, _, _, hx, hy, he => by
  simp only [ai4.fieldLeafs] at h
  injection h with h
  subst h
  simp only [List.length_nil, Nat.add_zero] at hx hy
  rw [List.drop_eq_nil_of_le (by omega), List.drop_eq_nil_of_le (by omega)] at he
  simp only [u7] at he
  injection he with he
  subst he
  simp [Op.eqFields]
 | f :: fs, off, ls, xs, ys, xv, yv, r, h, cx, cy, hx, hy, he => by
  simp only [ai4.fieldLeafs] at h
  split at h
  ·rename_i l hl
   split at h
   ·rename_i hc
    obtain ⟨hn, ho, hsz⟩ := hc
    subst ho
    cases hrest : ai4.fieldLeafs (ai4 P d) (l9 P) fs (f.offset + l.length) with
    | none => rw [hrest] at h; cases h
    | some ls' =>
     rw [hrest] at h
     simp only [Option.map_some] at h
     injection h with h
     subst h
     obtain ⟨hs, ⟨b, hb, hone⟩, heq⟩ := IH f.type l hl
     obtain ⟨b1, b2, e1, e2, rfl⟩ := N7 he
     rw [List.drop_drop, List.drop_drop] at e2
     simp only [List.length_append] at hx hy
     obtain ⟨u, p1, t1⟩ := ae3 (P := P) cx (off := f.offset) hb hs (by omega) hone w
     obtain ⟨v, p2, t2⟩ := ae3 (P := P) cy (off := f.offset) hb hs (by omega) hone w
     have p3 := heq D hD c _ _ u v b1 w t1 t2 e1
     have ih := ag6 hD IH w fs (f.offset + l.length) ls' xs ys xv yv b2 hrest cx cy (by omega) (by omega) e2
     simp only [Op.eqFields, hn, ne_eq, not_false_eq_true, if_true, Sem.run_bind, p1, p2, p3, Result.andThen_ok]
     cases b1
     ·simp
     ·simpa using ih
   ·cases h
  ·cases h
theorem al1 {α : Type} (l : List α) (n : Nat) : (bK1 l n).length = n * l.length := by
 induction n with
 | zero => simp [bK1]
 | succ n ih => simp [bK1, ih, Nat.succ_mul]; omega
theorem aa0 : ∀ (d : Nat) (t : TypeId) (ls : List Leaf), ai4 P d t = some ls → bN6 P d t ls
 | 0, t, ls, h => by cases h
 | d + 1, t, ls, h => by
  unfold ai4 at h
  split at h
  ·rename_i hu
   split at h
   ·rename_i hs
    injection h with h
    subst h
    refine ⟨hs, ⟨false, by simp [G9, hu], fun _ => rfl⟩, fun D hD c xs ys xv yv r w hx hy he => ?_⟩
    obtain ⟨D, rfl⟩ : ∃ D', D = D' + 1 := ⟨D - 1, by omega⟩
    rcases hx with ⟨hh, _⟩ | ⟨_, x, rfl, hx⟩
    ·simp [G9, hu] at hh
    rcases hy with ⟨hh, _⟩ | ⟨_, y, rfl, hy⟩
    ·simp [G9, hu] at hh
    simp only [u7] at he
    split at he
    ·rename_i a1 a2 h1 h2
     injection he with he
     injection h2 with h2
     subst h2
     simp at he
     subst he
     rcases ae2 hx hy h1 with ⟨hh, _⟩ | ⟨_, m, n, rfl, rfl, rfl⟩ | ⟨hh, _⟩
     ·cases hh
     ·simp [Op.equalIn, run_underlying hu]
     ·cases hh
    ·cases he
   ·cases h
  ·rename_i hu
   split at h
   ·rename_i hs
    injection h with h
    subst h
    refine ⟨hs, ⟨false, by simp [G9, hu], fun _ => rfl⟩, fun D hD c xs ys xv yv r w hx hy he => ?_⟩
    obtain ⟨D, rfl⟩ : ∃ D', D = D' + 1 := ⟨D - 1, by omega⟩
    rcases hx with ⟨hh, _⟩ | ⟨_, x, rfl, hx⟩
    ·simp [G9, hu] at hh
    rcases hy with ⟨hh, _⟩ | ⟨_, y, rfl, hy⟩
    ·simp [G9, hu] at hh
    simp only [u7] at he
    split at he
    ·rename_i a1 a2 h1 h2
     injection he with he
     injection h2 with h2
     subst h2
     simp at he
     subst he
     rcases ae2 hx hy h1 with ⟨_, k, m, n, rfl, rfl, rfl⟩ | ⟨hh, _⟩ | ⟨hh, _⟩
     ·simp [Op.equalIn, run_underlying hu]
     ·cases hh
     ·cases hh
    ·cases he
   ·cases h
  ·rename_i hu
   split at h
   ·rename_i hs
    injection h with h
    subst h
    refine ⟨hs, ⟨false, by simp [G9, hu], fun _ => rfl⟩, fun D hD c xs ys xv yv r w hx hy he => ?_⟩
    obtain ⟨D, rfl⟩ : ∃ D', D = D' + 1 := ⟨D - 1, by omega⟩
    rcases hx with ⟨hh, _⟩ | ⟨_, x, rfl, hx⟩
    ·simp [G9, hu] at hh
    rcases hy with ⟨hh, _⟩ | ⟨_, y, rfl, hy⟩
    ·simp [G9, hu] at hh
    simp only [u7] at he
    split at he
    ·rename_i a1 a2 h1 h2
     injection he with he
     injection h2 with h2
     subst h2
     simp at he
     subst he
     rcases ae2 hx hy h1 with ⟨hh, _⟩ | ⟨hh, _⟩ | ⟨_, m, n, rfl, rfl, rfl⟩
     ·cases hh
     ·cases hh
     ·simp [Op.equalIn, run_underlying hu]
    ·cases he
   ·cases h
  ·rename_i n e hu
   split at h
   ·rename_i l hl
    split at h
    ·rename_i hs
     injection h with h
     subst h
     have IH := aa0 d e l hl
     refine ⟨by rw [hs.2, al1], ⟨true, by simp [G9, hu], fun hh => by cases hh⟩, fun D hD c xs ys xv yv r w hx hy he => ?_⟩
     obtain ⟨D, rfl⟩ : ∃ D', D = D' + 1 := ⟨D - 1, by omega⟩
     rcases hx with ⟨_, vs, rfl, hx⟩ | ⟨hh, _⟩
     ·rcases hy with ⟨_, us, rfl, hy⟩ | ⟨hh, _⟩
      ·obtain ⟨i, hi, hisz⟩ := V2 hs.1
       have hcells : P.cellsOf e = l.length := by simp [Program.cellsOf, hi, hisz]
       rw [run_equalIn_array w D vs us hu hi, hcells, List.range_eq_range']
       have hlen := Y1 he
       rw [al1] at hlen
       refine al0 (c := c) IH (by omega) w n 0 xs ys vs us r hx hy (by omega) (by omega) ?_
       simp only [Nat.zero_mul, List.drop_zero]
       rw [List.take_of_length_le (by omega), List.take_of_length_le (by omega)]
       exact he
      ·simp [G9, hu] at hh
     ·simp [G9, hu] at hh
    ·cases h
   ·cases h
  ·rename_i fs hu
   split at h
   ·cases h
   ·rename_i hst
    split at h
    ·rename_i l hl
     split at h
     ·rename_i hs
      injection h with h
      subst h
      refine ⟨hs, ⟨true, by simp [G9, hu], fun hh => by cases hh⟩, fun D hD c xs ys xv yv r w hx hy he => ?_⟩
      obtain ⟨D, rfl⟩ : ∃ D', D = D' + 1 := ⟨D - 1, by omega⟩
      rcases hx with ⟨_, vs, rfl, hx⟩ | ⟨hh, _⟩
      ·rcases hy with ⟨_, us, rfl, hy⟩ | ⟨hh, _⟩
       ·have hf : P.fieldsOf t = fs := by simp [Program.fieldsOf, hu]
        rw [run_equalIn_struct w D t vs us (by rw [hf]; exact hu) (by simpa using hst), hf]
        have hlen := Y1 he
        exact ag6 (by omega) (fun t' ls' h' => aa0 d t' ls' h') w fs.toList 0 l xs ys vs us r hl hx hy (by omega) (by omega) (by simpa using he)
       ·simp [G9, hu] at hh
      ·simp [G9, hu] at hh
     ·cases h
    ·cases h
  ·cases h
theorem al2 {op : BinOp} {t : TypeId} {ox oy : Operand} {vs us : Array Value} (h : P.eqGuardType P.depth t = false) (w : World) : (eqGuard op t ox oy (.agg vs) (.agg us)).run P w = .ok () w := by
 cases op <;> simp [eqGuard, h]
theorem aY8 {d : Option TypeDesc} (h : aY7 d = true) : ∃ e, d = some (.slice e) := by
 unfold aY7 at h
 split at h
 ·exact ⟨_, rfl⟩
 ·cases h
theorem bh0 {t : TypeId} {x : AV} {xv : Value} {b : Bool} (hx : VR c x xv) (hn : bN2 x = some b) (hu : aY7 (P.underlying t) = true) : (Op.equalIn 10000 t xv (.slice none 0 0)).run P c.w = .ok b c.w ∧ ∃ A n cap, xv = .slice A n cap := by
 obtain ⟨e, hu⟩ := aY8 hu
 have h0 : ∀ d n cap, (Op.equalIn (d + 1) t (.slice none n cap) (.slice none 0 0)).run P c.w = .ok true c.w := fun d n cap => by simp [Op.equalIn, run_underlying hu]
 have h1 : ∀ d a n cap, (Op.equalIn (d + 1) t (.slice (some a) n cap) (.slice none 0 0)).run P c.w = .ok false c.w := fun d a n cap => by simp [Op.equalIn, run_underlying hu]
 unfold bN2 at hn
 split at hn
 ·injection hn with hn
  subst hn
  cases hx with
  | data _ _ hp =>
   cases hp
   exact ⟨h0 9999 _ _, _, _, _, rfl⟩
 ·split at hn
  ·rename_i hlt
   injection hn with hn
   subst hn
   cases hx with
   | data _ _ hp =>
    cases hp with
    | sl n cs A cap u _ hA =>
     obtain ⟨a, rfl⟩ := hA hlt
     exact ⟨h1 9999 _ _ _, _, _, _, rfl⟩
  ·cases hn
 ·split at hn
  ·rename_i hc
   injection hn with hn
   subst hn
   cases hx with
   | data _ _ hp => cases hp
   | ref k g off n A cap _ _ _ hA =>
    obtain ⟨a, rfl⟩ := hA hc
    exact ⟨h1 9999 _ _ _, _, _, _, rfl⟩
  ·cases hn
 ·cases hn
theorem bN7 {op : BinOp} {t : TypeId} {ox oy : Operand} {x y v : AV} {xv yv : Value} (hx : VR c x xv) (hy : VR c y yv) (h : I1 P op t x y = some v) :
  Says P c (do eqGuard op t ox oy xv yv; binOp op t xv yv) v := by
 unfold I1 at h
 split at h
 ·obtain rfl := hx.int_
  obtain rfl := hy.int_
  have hg : ∀ k a, eqGuard op t ox oy (.int k a) = fun _ => pure () := fun k a => funext fun v => eqGuard_at_int op t ox oy v k a
  split at h
  ·obtain ⟨cv, h1, h2⟩ := aD1 (P := P) (c := c) (t := t) (.inl rfl) h
   exact ⟨cv, by simp [hg]; exact h1, h2⟩
  ·obtain ⟨cv, h1, h2⟩ := aD1 (P := P) (c := c) (t := t) (.inr rfl) h
   exact ⟨cv, by simp [hg]; exact h1, h2⟩
  ·rename_i n1 n2
   split at h
   ·rename_i e
    subst e
    obtain ⟨cv, h1, h2⟩ := bN5 (P := P) (c := c) (t := t) n1 n2 h
    exact ⟨cv, by simp [hg]; exact h1, h2⟩
   ·cases h
 ·obtain rfl := hx.str_
  obtain rfl := hy.str_
  obtain ⟨cv, h1, h2⟩ := bg9 (P := P) (c := c) (t := t) h
  exact ⟨cv, by simp [eqGuard_at_string]; exact h1, h2⟩
 ·obtain rfl := hx.bool_
  obtain rfl := hy.bool_
  split at h
  ·split at h
   ·rename_i hu
    injection h with h; subst h
    have hu' : P.underlying t = some .bool := ag2 hu
    refine ⟨_, ?_, VR.bool ..⟩
    simp [eqGuard_at_bool, binOp, Op.equal, Op.maxDepth, run_equalIn_bool _ 9999 t _ _ hu']
   ·cases h
  ·split at h
   ·rename_i hu
    injection h with h; subst h
    have hu' : P.underlying t = some .bool := ag2 hu
    refine ⟨_, ?_, VR.bool ..⟩
    simp [eqGuard_at_bool, binOp, Op.equal, Op.maxDepth, run_equalIn_bool _ 9999 t _ _ hu']
   ·cases h
  ·cases h
 ·obtain ⟨vs, rfl, hl, hv, _⟩ := hx.agg_
  obtain ⟨us, rfl, hl', hv', _⟩ := hy.agg_
  have key : ∀ (l : List Leaf) (b : Bool), D4 P t = some l → u7 l _ _ = some b → P.eqGuardType P.depth t = false ∧ (Op.equalIn 10000 t (.agg vs) (.agg us)).run P c.w = .ok b c.w := fun l b hl1 hb => by
   unfold D4 at hl1
   split at hl1
   ·cases hl1
   ·rename_i hg
    split at hl1
    ·rename_i hag
     obtain ⟨hs, _, heq⟩ := aa0 (P := P) 20 t l hl1
     exact ⟨by simpa using hg, heq 10000 (by omega) c _ _ _ _ b c.w (.inl ⟨hag, vs, rfl, hl, hv⟩) (.inl ⟨hag, us, rfl, hl', hv'⟩) hb⟩
    ·cases hl1
  split at h
  ·cases hl1 : D4 P t with
   | none => rw [hl1] at h; cases h
   | some l =>
    rw [hl1] at h
    simp only [Option.bind_some] at h
    cases hb : u7 l _ _ with
    | none => rw [hb] at h; cases h
    | some b =>
     rw [hb] at h
     simp only [Option.map_some] at h
     injection h with h; subst h
     obtain ⟨k1, k2⟩ := key l b hl1 hb
     refine ⟨_, ?_, VR.bool ..⟩
     simp [al2 k1, run_eql_struct, k2]
  ·cases hl1 : D4 P t with
   | none => rw [hl1] at h; cases h
   | some l =>
    rw [hl1] at h
    simp only [Option.bind_some] at h
    cases hb : u7 l _ _ with
    | none => rw [hb] at h; cases h
    | some b =>
     rw [hb] at h
     simp only [Option.map_some] at h
     injection h with h; subst h
     obtain ⟨k1, k2⟩ := key l b hl1 hb
     refine ⟨_, ?_, VR.bool ..⟩
     simp [al2 k1, run_neq_struct, k2]
  ·cases h
 ·have hy0 : yv = .slice none 0 0 := by
   cases hy with
   | data _ _ hp => cases hp; rfl
  subst hy0
  split at h
  ·split at h
   ·rename_i hu
    cases hn : bN2 x with
    | none => rw [hn] at h; cases h
    | some b =>
     rw [hn] at h
     injection h with h; subst h
     obtain ⟨k1, A, n, cap, rfl⟩ := bh0 hx hn hu
     refine ⟨_, ?_, VR.bool ..⟩
     simp [eqGuard, binOp, Op.equal, Op.maxDepth, k1]
   ·cases h
  ·split at h
   ·rename_i hu
    cases hn : bN2 x with
    | none => rw [hn] at h; cases h
    | some b =>
     rw [hn] at h
     injection h with h; subst h
     obtain ⟨k1, A, n, cap, rfl⟩ := bh0 hx hn hu
     refine ⟨_, ?_, VR.bool ..⟩
     simp [eqGuard, binOp, Op.equal, Op.maxDepth, k1]
   ·cases h
  ·cases h
 ·cases h
end
end Go.Proofs.YtpmjpogcaglphaaDoor.A
namespace Go.Proofs.YtpmjpogcaglphaaDoor.A
open Go
def bx1 (P : Program) (c : Ctx) (N : Tag → Prop) (s : Sem Value) (v : AV) (Ho : Tag → Option AObj) : Prop :=
 ∃ cv c', s.run P c.w = .ok cv c'.w ∧ Inv c' ∧ Step c c' ∧ c'.H = Ho ∧ (∀ t, c'.T t → c.T t ∨ N t) ∧ VR c' v cv
def by1 (P : Program) (c : Ctx) (N : Tag → Prop) (s : Sem Unit) (Ho : Tag → Option AObj) : Prop :=
 ∃ c', s.run P c.w = .ok () c'.w ∧ Inv c' ∧ Step c c' ∧ c'.H = Ho ∧ (∀ t, c'.T t → c.T t ∨ N t)
section
variable {P : Program} {c : Ctx} {N : Tag → Prop}
theorem Says.does (hI : Inv c) {s : Sem Value} {v : AV} {Ho : Tag → Option AObj} (h : Says P c s v) (hH : c.H = Ho) : bx1 P c N s v Ho := by
 obtain ⟨cv, h1, h2⟩ := h
 exact ⟨cv, c, h1, hI, Step.refl c, hH, fun t ht => .inl ht, h2⟩
theorem bN8 {x : AV} {i : Int} {v : Value} (hx : VR c x v) (h : asI x = some i) : v = .int .i64 i := by
 unfold asI at h
 split at h
 ·injection h with h; subst h; exact hx.int_
 ·cases h
theorem al3 {t : TypeId} {f o : Nat} {ft : TypeId} (h : E9 P t f = some (o, ft)) : ∃ fs x, P.underlying t = some (.struct fs) ∧ fs[f]? = some x ∧ x.offset = o ∧ x.type = ft := by
 unfold E9 at h
 split at h
 ·rename_i fs hu
  cases hf : fs[f]? with
  | none => rw [hf] at h; cases h
  | some x => rw [hf] at h; simp at h; exact ⟨fs, x, hu, hf, h.1, h.2⟩
 ·cases h
theorem aY9 {t : TypeId} (h : (l9 P t).getD 0 ≠ 0) (w : World) : ∃ n, n ≠ 0 ∧ (sizeOf t).run P w = .ok n w := by
 cases hs : l9 P t with
 | none => rw [hs] at h; exact absurd rfl h
 | some n => rw [hs] at h; exact ⟨n, h, w9 hs w⟩
theorem al4 {t : TypeId} {f o : Nat} {ft : TypeId} (h : E9 P t f = some (o, ft)) (hz : (l9 P ft).getD 0 ≠ 0) (a : Addr) (w : World) : (Instr.fieldAt t (.pointer (some a)) f).run P w = .ok (.pointer (some (a.add o))) w := by
 obtain ⟨fs, x, hu, hf, rfl, rfl⟩ := al3 h
 obtain ⟨n, hn, hs⟩ := aY9 hz w
 simp [Instr.fieldAt, run_underlying hu, hf, Instr.sureAddr, fieldPlace, hs, hn]
theorem al5 {cs : List AV} {a : Addr} {o : Nat} (h : VR c (.fptr cs) (.pointer (some a))) : VR c (.fptr (cs.drop o)) (.pointer (some (a.add o))) := by
 obtain ⟨a', e, hS, hc⟩ := h.fptr_
 injection e with e
 injection e with e
 subst e
 have hex : ∀ j, ∃ u : Value, ∀ x, (cs.drop o)[j]? = some x → c.w.cell? ((a.add o).add j) = some u ∧ u.oneCell' = true ∧ PR c.S c.w x u := fun j => by
  rw [List.getElem?_drop]
  cases hx : cs[o + j]? with
  | none => exact ⟨undef, fun x h => by cases h⟩
  | some x =>
   obtain ⟨u, h1, h2, h3⟩ := hc _ x hx
   refine ⟨u, fun y hy => ?_⟩
   injection hy with hy
   subst hy
   rw [aK5]
   exact ⟨h1, h2, h3⟩
 obtain ⟨u, hu⟩ := Classical.axiomOfChoice hex
 refine .data _ _ (.fptr _ _ u (fun hne => ?_) (fun j x hx => (hu j x hx).1) (fun j x hx => (hu j x hx).2.1) (fun j x hx => (hu j x hx).2.2))
 rw [S4]
 refine hS fun e => hne ?_
 rw [e]; simp
theorem ax7 {t : TypeId} {f : Nat} {x v : AV} {xv : Value} {H : AH} {r : AV × AH} (hx : VR c x xv)
  (h : (match some x, E9 P t f with
   | some (.ptr k g off), some (o', ft) => if (l9 P ft).getD 0 = 0 then none else some (AV.ptr k g (off + o'), H)
   | some (.fptr cs), some (o', ft) => if (l9 P ft).getD 0 = 0 then none else some (.fptr (cs.drop o'), H)
   | _, _ => none) = some r) : Says P c (Instr.fieldAt t xv f) r.1 ∧ r.2 = H := by
 split at h
 ·rename_i k g off o' ft e hf
  injection e with e
  subst e
  split at h
  ·cases h
  ·rename_i hz
   injection h with h; subst h
   obtain ⟨hk, hg, a, rfl, ha⟩ := hx.ptr_
   refine ⟨⟨_, al4 hf hz a c.w, .ptr k g _ _ hk hg fun r hr hgen => ?_⟩, rfl⟩
   have := ha r (by unfold W7; rw [hr]; simp [hgen])
   rw [this, H5]
 ·rename_i cs o' ft e hf
  injection e with e
  subst e
  split at h
  ·cases h
  ·rename_i hz
   injection h with h; subst h
   obtain ⟨a, rfl, _⟩ := hx.fptr_
   exact ⟨⟨_, al4 hf hz a c.w, al5 hx⟩, rfl⟩
 ·cases h
theorem O6 {t e : TypeId} (h : E7 P t = some e) : P.underlying t = some (.slice e) := by
 unfold E7 at h
 split at h
 ·rename_i hu; injection h with h; subst h; exact hu
 ·cases h
theorem Y2 {t e : TypeId} {n : Nat} (h : ak5 P t = some (n, e)) : P.underlying t = some (.array n e) := by
 unfold ak5 at h
 split at h
 ·rename_i hu; injection h with h; injection h with h1 h2; subst h1; subst h2; exact hu
 ·cases h
theorem V3 {t : TypeId} {s : Nat} (h : (E7 P t).bind (l9 P) = some s) : ∃ e, P.underlying t = some (.slice e) ∧ l9 P e = some s := by
 cases he : E7 P t with
 | none => rw [he] at h; cases h
 | some e => rw [he] at h; exact ⟨e, O6 he, h⟩
theorem N8 {t e : TypeId} {s : Nat} (hu : P.underlying t = some (.slice e)) (hs : l9 P e = some s) (a : Addr) (n cap : Nat) (i : Int) (h0 : 0 ≤ i) (h1 : i < n) (w : World) :
  (Instr.indexAt t (.slice (some a) n cap) (.int .i64 i)).run P w = .ok (.pointer (some (a.add (i.toNat * s)))) w := by
 simp [Instr.indexAt, asIntOf, run_underlying hu, h0, h1, w9 hs]
theorem X2 {t e : TypeId} {s n : Nat} (hu : P.underlying t = some (.array n e)) (hs : l9 P e = some s) (a : Addr) (i : Int) (h0 : 0 ≤ i) (h1 : i < n) (w : World) :
  (Instr.indexAt t (.pointer (some a)) (.int .i64 i)).run P w = .ok (.pointer (some (a.add (i.toNat * s)))) w := by
 simp [Instr.indexAt, asIntOf, run_underlying hu, h0, h1, w9 hs, Instr.sureAddr]
theorem ax8 {t : TypeId} {x v : AV} {i : Int} {xv : Value} (hx : VR c x xv) (h : j6 P t x i = some v) : Says P c (Instr.indexAt t xv (.int .i64 i)) v := by
 unfold j6 at h
 split at h
 ·rename_i n cs
  split at h
  ·rename_i s hs
   split at h
   ·rename_i hb
    injection h with h; subst h
    obtain ⟨e, hu, hs'⟩ := V3 hs
    obtain ⟨A, cap, rfl, hn, hA0, hA, hc⟩ := hx.sl_
    by_cases hne : cs = []
    ·subst hne
     obtain ⟨a, rfl⟩ := hA0 (by omega)
     exact ⟨_, N8 hu hs' a n cap i hb.1 hb.2 c.w, .data _ _ (.fptr _ _ (fun _ => undef) (fun hh => by simp at hh) (fun j x hx => by simp at hx) (fun j x hx => by simp at hx) (fun j x hx => by simp at hx))⟩
    ·obtain ⟨a, rfl, hSa⟩ := hA hne
     have hf : VR c (.fptr cs) (.pointer (some a)) := by
      have hex : ∀ j, ∃ u : Value, ∀ x, cs[j]? = some x → c.w.cell? (a.add j) = some u ∧ u.oneCell' = true ∧ PR c.S c.w x u := fun j => by
       cases hx : cs[j]? with
       | none => exact ⟨undef, fun x h => by cases h⟩
       | some x =>
        obtain ⟨u, h1⟩ := hc a _ x rfl hx
        exact ⟨u, fun y hy => by injection hy with hy; subst hy; exact h1⟩
      obtain ⟨u, hu'⟩ := Classical.axiomOfChoice hex
      exact .data _ _ (.fptr _ _ u (fun _ => hSa) (fun j x hx => (hu' j x hx).1) (fun j x hx => (hu' j x hx).2.1) (fun j x hx => (hu' j x hx).2.2))
     exact ⟨_, N8 hu hs' a n cap i hb.1 hb.2 c.w, al5 hf⟩
   ·cases h
  ·cases h
 ·rename_i k g off n
  split at h
  ·rename_i s hs
   split at h
   ·rename_i hb
    injection h with h; subst h
    obtain ⟨e, hu, hs'⟩ := V3 hs
    obtain ⟨hk, hg, A, cap, rfl, hn, hA, hr⟩ := hx.ref_
    obtain ⟨a, rfl⟩ := hA (.inr (by omega))
    refine ⟨_, N8 hu hs' a n cap i hb.1 hb.2 c.w, .ptr k g _ _ hk hg fun r hr' hgen => ?_⟩
    obtain ⟨hh, _⟩ := hr r (by unfold W7; rw [hr']; simp [hgen])
    have := hh (.inr (by omega))
    injection this with this
    rw [this, H5]
   ·cases h
  ·cases h
 ·rename_i cs
  split at h
  ·rename_i n e ha
   split at h
   ·rename_i s hs
    split at h
    ·rename_i hb
     injection h with h; subst h
     obtain ⟨a, rfl, _⟩ := hx.fptr_
     exact ⟨_, X2 (Y2 ha) hs a i hb.1 hb.2 c.w, al5 hx⟩
    ·cases h
   ·cases h
  ·cases h
 ·rename_i k g off
  split at h
  ·rename_i n e ha
   split at h
   ·rename_i s hs
    split at h
    ·rename_i hb
     injection h with h; subst h
     obtain ⟨hk, hg, a, rfl, hr⟩ := hx.ptr_
     refine ⟨_, X2 (Y2 ha) hs a i hb.1 hb.2 c.w, .ptr k g _ _ hk hg fun r hr' hgen => ?_⟩
     rw [hr r (by unfold W7; rw [hr']; simp [hgen]), H5]
    ·cases h
   ·cases h
  ·cases h
 ·cases h
end
end Go.Proofs.YtpmjpogcaglphaaDoor.A
namespace Go.Proofs.YtpmjpogcaglphaaDoor.A
open Go
section
variable {P : Program} {c : Ctx} {N : Tag → Prop}
theorem aD2 {t : TypeId} {xs : List AV} {vs : Array Value} (h : Cells c xs vs) (h1 : ∀ (j : Nat) (u : Value), vs[j]? = some u → u.oneCell' = true) {off : Nat} {v : AV} (hv : O4 P t (xs.drop off) = some v) : Says P c (part t vs off) v := by
 unfold O4 at hv
 split at hv
 ·rename_i b n hb hn
  cases b with
  | true =>
   simp only [M5] at hv
   split at hv
   ·rename_i hle
    injection hv with hv; subst hv
    have hle' : off + n ≤ xs.length ∨ n = 0 := by simp at hle; omega
    refine ⟨.agg (vs.extract off (off + n)), by simp only [part, Sem.run_bind, V1 hb, w9 hn, Result.andThen_ok, if_true, Sem.run_pure], .agg _ _ ?_ ?_ ?_⟩
    ·have := h.1; simp at hle ⊢; omega
    ·intro j x u hx hu
     have hj : j < n := by have := (List.getElem?_eq_some_iff.1 hx).1; simp at this; omega
     rw [List.getElem?_take, if_pos hj, List.getElem?_drop] at hx
     rw [Array.getElem?_extract] at hu
     split at hu
     ·exact h.2 _ x u hx hu
     ·cases hu
    ·intro j u hu
     rw [Array.getElem?_extract] at hu
     split at hu
     ·exact h1 _ u hu
     ·cases hu
   ·cases hv
  | false =>
   simp only [M5] at hv
   split at hv
   ·rename_i x xs' hxs
    injection hv with hv; subst hv
    have hx : xs[off]? = some x := by
     have := congrArg (·[0]?) hxs
     simpa [List.getElem?_drop] using this
    have hlt : off < vs.size := by have := (List.getElem?_eq_some_iff.1 hx).1; have := h.1; omega
    exact ⟨vs[off], by simp [part, V1 hb, hlt], h.2 off _ _ hx (by simp [hlt])⟩
   ·cases hv
 ·cases hv
theorem bh1 {t : TypeId} {f : Nat} {x v : AV} {xv : Value} {H : AH} {r : AV × AH} (hx : VR c x xv)
  (h : (match some x, E9 P t f with
   | some (.agg cs), some (o', ft) => (O4 P ft (cs.drop o')).map (·, H)
   | _, _ => none) = some r) : Says P c (Instr.field t xv f) r.1 ∧ r.2 = H := by
 split at h
 ·rename_i cs o' ft e hf
  injection e with e
  subst e
  obtain ⟨vs, rfl, hl, hv, h1⟩ := hx.agg_
  obtain ⟨fs, y, hu, hfy, rfl, rfl⟩ := al3 hf
  cases hk : O4 P y.type (cs.drop y.offset) with
  | none => rw [hk] at h; cases h
  | some u =>
   rw [hk] at h
   injection h with h; subst h
   obtain ⟨cv, a1, a2⟩ := aD2 (P := P) ⟨hl, hv⟩ h1 hk
   exact ⟨⟨cv, by simp [Instr.field, run_underlying hu, hfy, asAgg, a1], a2⟩, rfl⟩
 ·cases h
theorem bN9 (s : List UInt8) (i : Nat) : (⟨s.toArray⟩ : ByteArray)[i]? = s[i]? := by
 by_cases h : i < s.length
 ·rw [List.getElem?_eq_getElem h, getElem?_pos (⟨s.toArray⟩ : ByteArray) i (by rw [I5]; exact h)]
  rfl
 ·rw [List.getElem?_eq_none (by omega), getElem?_neg (⟨s.toArray⟩ : ByteArray) i (by rw [I5]; exact h)]
theorem bh2 {t : TypeId} {x v : AV} {i : Int} {xv : Value} (hx : VR c x xv) (h : R1 P t x i = some v) : Says P c (Instr.index t xv (.int .i64 i)) v := by
 unfold R1 at h
 split at h
 ·rename_i cs
  split at h
  ·rename_i n e ha
   split at h
   ·rename_i s hs
    split at h
    ·rename_i hb
     obtain ⟨vs, rfl, hl, hv, h1⟩ := hx.agg_
     obtain ⟨cv, a1, a2⟩ := aD2 (P := P) ⟨hl, hv⟩ h1 h
     exact ⟨cv, by simp [Instr.index, asIntOf, run_underlying (Y2 ha), hb.1, hb.2, w9 hs, a1], a2⟩
    ·cases h
   ·cases h
  ·cases h
 ·rename_i s
  obtain rfl := hx.str_
  split at h
  ·rename_i hu
   split at h
   ·rename_i h0
    cases hb : s[i.toNat]? with
    | none => rw [hb] at h; cases h
    | some b =>
     rw [hb] at h
     injection h with h; subst h
     refine ⟨_, ?_, VR.int ..⟩
     simp [Instr.index, asIntOf, run_underlying (ad5 hu), h0, bN9, hb]
   ·cases h
  ·cases h
 ·cases h
def bV : Option Int → Option Value
 | none => none
 | some n => some (.int .i64 n)
theorem at2 (b : Bool) (len cap : Nat) (lo hi : Option Int) (h0 : 0 ≤ lo.getD 0) (h1 : lo.getD 0 ≤ hi.getD len) (h2 : hi.getD len ≤ cap) (w : World) :
  (Instr.sliceBounds b len cap (bV lo) (bV hi) none).run P w = .ok ((lo.getD 0).toNat, (hi.getD len).toNat, cap) w := by
 cases lo with
 | none =>
  cases hi with
  | none => simp [Instr.sliceBounds, bV]
  | some h =>
   simp only [Option.getD_none, Option.getD_some] at h0 h1 h2
   simp [Instr.sliceBounds, Instr.sliceBound, bV, asIntOf, h1, h2]
 | some l =>
  cases hi with
  | none =>
   simp only [Option.getD_none, Option.getD_some] at h0 h1 h2
   simp [Instr.sliceBounds, Instr.sliceBound, bV, asIntOf, h0, h1]
  | some h =>
   simp only [Option.getD_some] at h0 h1 h2
   have h3 : l ≤ max h 0 := by omega
   have h4 : 0 ≤ h := by omega
   simp [Instr.sliceBounds, Instr.sliceBound, bV, asIntOf, h0, h1, h2, h3, h4]
theorem Q0 {t e : TypeId} {s : Nat} (hu : P.underlying t = some (.slice e)) (hs : l9 P e = some s) (A : Option Addr) (n cap : Nat) (lo hi : Option Int) (h0 : 0 ≤ lo.getD 0) (h1 : lo.getD 0 ≤ hi.getD n) (h2 : hi.getD n ≤ cap) (w : World) :
  (Instr.sliceAt t (.slice A n cap) (bV lo) (bV hi) none).run P w = .ok (.slice (if cap = (lo.getD 0).toNat then A else A.map (·.add ((lo.getD 0).toNat * s))) ((hi.getD n).toNat - (lo.getD 0).toNat) (cap - (lo.getD 0).toNat)) w := by
 simp only [Instr.sliceAt, Instr.slice, Sem.run_bind, run_underlying hu, Result.andThen_ok, at2 true n cap lo hi h0 h1 h2, w9 hs, Sem.run_pure]
theorem bh3 {t : TypeId} {x v : AV} {lo hi : Option Int} {xv : Value} (hx : VR c x xv) (h : R7 P t x lo hi = some v) : Says P c (Instr.sliceAt t xv (bV lo) (bV hi) none) v := by
 unfold R7 at h
 dsimp only at h
 split at h
 ·rename_i s
  obtain rfl := hx.str_
  split at h
  ·rename_i hb
   injection h with h; subst h
   obtain ⟨hu, h0, h1, h2⟩ := hb
   refine ⟨.string ⟨((s.take (hi.getD s.length).toNat).drop (lo.getD 0).toNat).toArray⟩, ?_, VR.str ..⟩
   have hb := at2 (P := P) false s.length s.length lo hi h0 h1 (by omega) c.w
   simp only [Instr.sliceAt, Instr.slice, Sem.run_bind, run_underlying (ad5 hu), Result.andThen_ok, Option.isSome_none, Bool.false_eq_true, if_false, Sem.run_pure, I5, hb, ByteArray.extract_mk]
   rw [List.drop_take]
  ·cases h
 ·obtain rfl := hx.nil_
  split at h
  ·rename_i hb
   injection h with h; subst h
   obtain ⟨h0, h1, h2⟩ := hb
   cases hs : (E7 P t).bind (l9 P) with
   | none => rw [hs] at h0; cases h0
   | some s =>
    obtain ⟨e, hu, hs'⟩ := V3 hs
    refine ⟨.slice none 0 0, ?_, .data _ _ .nil⟩
    rw [Q0 hu hs' none 0 0 lo hi (by omega) (by rw [h1]; simp [h2]) (by simp [h2])]
    simp [h1, h2]
  ·cases h
 ·rename_i n cs
  split at h
  ·rename_i s hs
   split at h
   ·rename_i hb
    injection h with h; subst h
    obtain ⟨h0, h1, h2⟩ := hb
    obtain ⟨e, hu, hs'⟩ := V3 hs
    obtain ⟨A, cap, rfl, hn, hA0, hA, hc⟩ := hx.sl_
    refine ⟨_, Q0 hu hs' A n cap lo hi h0 h1 (by omega) c.w, ?_⟩
    generalize hl : (lo.getD 0).toNat = l
    generalize hh : (hi.getD n).toNat = m
    have hlm : l ≤ m := by omega
    have hmn : m ≤ n := by omega
    by_cases hcap : cap = l
    ·have : m - l = 0 := by omega
     rw [if_pos hcap, this]
     have he : (cs.take (m * s)).drop (l * s) = [] := by rw [show m = l by omega]; simp
     rw [he]
     exact .data _ _ (.sl _ _ _ _ (fun _ => undef) (by omega) (fun h => by omega) (fun h => absurd rfl h) (fun a j x _ hx => by simp at hx) (fun j x hx => by simp at hx) (fun j x hx => by simp at hx))
    ·rw [if_neg hcap]
     have hex : ∀ j, ∃ u : Value, ∀ a x, A = some a → ((cs.take (m * s)).drop (l * s))[j]? = some x → c.w.cell? ((a.add (l * s)).add j) = some u ∧ u.oneCell' = true ∧ PR c.S c.w x u := fun j => by
      rw [List.getElem?_drop]
      cases A with
      | none => exact ⟨undef, fun a x h => by cases h⟩
      | some a =>
       cases hx : (cs.take (m * s))[l * s + j]? with
       | none => exact ⟨undef, fun a x _ h => by cases h⟩
       | some x =>
        have hx' : cs[l * s + j]? = some x := by
         rw [List.getElem?_take] at hx
         split at hx
         ·exact hx
         ·cases hx
        obtain ⟨u, h1, h2, h3⟩ := hc a _ x rfl hx'
        refine ⟨u, fun a' y ha' hy => ?_⟩
        injection ha' with ha'
        injection hy with hy
        subst ha'; subst hy
        rw [aK5]
        exact ⟨h1, h2, h3⟩
     obtain ⟨u, hu'⟩ := Classical.axiomOfChoice hex
     refine .data _ _ (.sl _ _ _ _ u (by omega) (fun hp => ?_) (fun hne => ?_) (fun a' j x ha' hxj => ?_) (fun j x hxj => ?_) (fun j x hxj => ?_))
     ·obtain ⟨a, rfl⟩ := hA0 (by omega)
      exact ⟨_, rfl⟩
     ·obtain ⟨a, rfl, hSa⟩ := hA (fun e => hne (by rw [e]; simp))
      exact ⟨_, rfl, by rw [S4]; exact hSa⟩
     ·cases A with
      | none => cases ha'
      | some a =>
       simp only [Option.map_some] at ha'
       injection ha' with ha'
       subst ha'
       exact (hu' j a x rfl hxj).1
     ·obtain ⟨a, rfl, _⟩ := hA (fun e => by rw [e] at hxj; simp at hxj)
      exact (hu' j a x rfl hxj).2.1
     ·obtain ⟨a, rfl, _⟩ := hA (fun e => by rw [e] at hxj; simp at hxj)
      exact (hu' j a x rfl hxj).2.2
   ·cases h
  ·cases h
 ·rename_i k g off n
  split at h
  ·rename_i s hs
   split at h
   ·rename_i hb
    injection h with h; subst h
    obtain ⟨hs0, h0, h1, h2⟩ := hb
    obtain ⟨e, hu, hs'⟩ := V3 hs
    obtain ⟨hk, hg, A, cap, rfl, hn, hA, hr⟩ := hx.ref_
    refine ⟨_, Q0 hu hs' A n cap lo hi h0 h1 (by omega) c.w, ?_⟩
    generalize hl : (lo.getD 0).toNat = l
    generalize hh : (hi.getD n).toNat = m
    have hlm : l ≤ m := by omega
    have hmn : m ≤ n := by omega
    by_cases hl0 : l = 0
    ·subst hl0
     simp only [Nat.zero_mul, Nat.add_zero, Nat.sub_zero]
     have hAA : (if cap = 0 then A else A.map fun x => x.add 0) = A := by
      split
      ·rfl
      ·cases A <;> simp [Addr.add]
     rw [hAA]
     refine .ref k g _ _ _ _ hk hg (by omega) (fun hh => hA (by omega)) fun r hr' hgen => ?_
     obtain ⟨q1, q2⟩ := hr r (by unfold W7; rw [hr']; simp [hgen])
     exact ⟨fun hh => q1 (by omega), q2⟩
    ·have hls : 0 < l * s := Nat.mul_pos (by omega) hs0
     have hne : ¬ (off + l * s = 0) := by omega
     refine .ref k g _ _ _ _ hk hg (by omega) (fun hp => ?_) fun r hr' hgen => ⟨fun hp => ?_, fun hp => absurd hp hne⟩
     ·obtain ⟨a, rfl⟩ := hA (by omega)
      split <;> exact ⟨_, rfl⟩
     ·obtain ⟨q1, _⟩ := hr r (by unfold W7; rw [hr']; simp [hgen])
      have hpos : 0 < m - l := by omega
      rw [if_neg (by omega), q1 (by omega)]
      simp [H5]
   ·cases h
  ·cases h
 ·cases h
theorem J4 {t : TypeId} {z : List AV} (h : F8 P t = some z) : ∃ i v, P.info? t = some i ∧ i.zero = some v ∧ N3 v.cells.toList = some z := by
 unfold F8 at h
 split at h
 ·rename_i v hv
  cases hi : P.info? t with
  | none => rw [hi] at hv; cases hv
  | some i => rw [hi] at hv; exact ⟨i, v, rfl, hv, h⟩
 ·cases h
theorem J5 {v : Value} {z : List AV} (h : N3 v.cells.toList = some z) (c : Ctx) : v.cells.size = z.length ∧ ∀ (j : Nat) (x : AV), z[j]? = some x → ∃ u : Value, v.cells[j]? = some u ∧ u.oneCell' = true ∧ VR c x u := by
 obtain ⟨hl, hh⟩ := Y0 h c.S c.w
 have hl' : v.cells.size = z.length := by simpa using hl
 refine ⟨hl', fun j x hx => ?_⟩
 have hj : j < v.cells.size := by have := (List.getElem?_eq_some_iff.1 hx).1; omega
 obtain ⟨a, b, _⟩ := hh j x v.cells[j] hx (by simp [hj])
 exact ⟨v.cells[j], by simp [hj], b, .data _ _ a⟩
theorem ae4 {t : Tag} (hI : Inv c) (ht : ¬ c.T t) (elem sz : Nat) (plain : Bool) (mk : Nat × Nat) (hp : plain = true → mk = (0, 0)) (cs : List AV) (cells : Array Value) (hm : mk.2 = 0 ∨ cs.length ≤ mk.1) (hl : cs.length ≤ cells.size)
  (hx : ∀ (j : Nat) (x : AV), cs[j]? = some x → ∃ u : Value, cells[j]? = some u ∧ u.oneCell' = true ∧ VR c x u) :
  Inv (c.new t (.row { elem, sz, gen := t, ro := false, plain, cs }) (.cells cells elem mk)) ∧ Step c (c.new t (.row { elem, sz, gen := t, ro := false, plain, cs }) (.cells cells elem mk)) :=
 ⟨bg6 hI t ht _ _ (fun r hr => by injection hr with hr; subst hr; exact ⟨rfl, rfl⟩) ⟨cells, mk, rfl, hp, hm, hl, hx⟩, aQ7 hI t ht _ _ (fun r hr => by injection hr with hr; subst hr; rfl)⟩
theorem bh4 (c : Ctx) (t : Tag) (x : AObj) (o : Obj) : VR (c.new t x o) (.ptr t t 0) (.pointer (some ⟨c.w.heap.size, 0, none⟩)) :=
 .ptr t t 0 _ (.inr rfl) (.inr rfl) fun r _ _ => by simp [Ctx.new]
theorem ax9 (c : Ctx) (t : Tag) (r : Row) (mk : Nat × Nat) (cells : Array Value) (n cap : Nat) (hn : n ≤ cap) (hc : cap * r.sz ≤ cells.size) : VR (c.new t (.row r) (.cells cells r.elem mk)) (.ref t t 0 n) (.slice (some ⟨c.w.heap.size, 0, none⟩) n cap) := by
 refine .ref t t 0 n _ _ (.inr rfl) (.inr rfl) hn (fun _ => ⟨_, rfl⟩) fun r' hr' _ => ⟨fun _ => by simp [Ctx.new], fun _ cl e m hcl => ?_⟩
 simp only [Ctx.new, f8] at hr'
 injection hr' with hr'
 injection hr' with hr'
 subst hr'
 simp only [Ctx.new, if_true] at hcl
 rw [F0] at hcl
 injection hcl with hcl
 injection hcl with hcl
 rw [← hcl]
 exact hc
theorem bh5 {t : Tag} (hI : Inv c) (ht : ¬ c.T t) {e : TypeId} {z : List AV} {H : AH} (hH : c.H = H.o) (hz : F8 P e = some z) (hN : N t) : bx1 P c N (Instr.alloc e true (.tuple #[])) (.ptr t t 0) (W8 H t e 1 true z).o := by
 obtain ⟨i, v, hi, hv, hz'⟩ := J4 hz
 obtain ⟨hl, hx⟩ := J5 hz' c
 obtain ⟨i1, s1⟩ := ae4 hI ht e 1 true (0, 0) (fun _ => rfl) z v.cells (.inl rfl) (by omega) hx
 refine ⟨_, _, ?_, i1, s1, by simp [Ctx.new, W8, hH], fun u hu => hu.imp id (fun e => by rw [e]; exact hN), bh4 c t _ _⟩
 simp [Instr.alloc, zeroValue, typeInfo, hi, hv, newVar, newRow, Ctx.new]
theorem bO0 {t : Tag} (hI : Inv c) (ht : ¬ c.T t) {e : TypeId} {x : AV} {xv : Value} {H : AH} (hH : c.H = H.o) (hx : VR c x xv) (hc : x.cells.all n9 = true) (hN : N t) : bx1 P c N (Instr.box e xv) (.ptr t t 0) (W8 H t e 1 true x.cells).o := by
 obtain ⟨hl, hh⟩ := hx.cells hc
 obtain ⟨i1, s1⟩ := ae4 hI ht e 1 true (0, 0) (fun _ => rfl) x.cells xv.cells (.inl rfl) (by omega) (fun j y hy => by
  have hj : j < xv.cells.size := by have := (List.getElem?_eq_some_iff.1 hy).1; omega
  obtain ⟨a, b⟩ := hh j y xv.cells[j] hy (by simp [hj])
  exact ⟨_, by simp [hj], b, a⟩)
 refine ⟨_, _, ?_, i1, s1, by simp [Ctx.new, W8, hH], fun u hu => hu.imp id (fun e => by rw [e]; exact hN), bh4 c t _ _⟩
 simp [Instr.box, newVar, newRow, Ctx.new]
theorem V4 (z : List AV) (n : Nat) : (rep z n).length = n * z.length := by
 induction n with
 | zero => simp [rep]
 | succ n ih => simp [rep, ih, Nat.succ_mul]; omega
theorem bh6 (z : List AV) (hz : 0 < z.length) : ∀ (n j : Nat), j < n * z.length → (rep z n)[j]? = z[j % z.length]?
 | 0, j, h => by simp at h
 | n + 1, j, h => by
  rw [Nat.succ_mul] at h
  simp only [rep]
  by_cases hj : j < z.length
  ·rw [List.getElem?_append_left hj, Nat.mod_eq_of_lt hj]
  ·rw [List.getElem?_append_right (by omega), bh6 z hz n _ (by omega)]
   congr 1
   rw [Nat.mod_eq_sub_mod (show j ≥ z.length by omega)]
theorem at3 {v : Value} {z : List AV} (hl : v.cells.size = z.length) (hx : ∀ (j : Nat) (x : AV), z[j]? = some x → ∃ u : Value, v.cells[j]? = some u ∧ u.oneCell' = true ∧ VR c x u) (hz : 0 < z.length) (n m : Nat) (hnm : n ≤ m) :
  (rep z n).length ≤ (madeCells v.cells (m * z.length)).size ∧ ∀ (j : Nat) (x : AV), (rep z n)[j]? = some x → ∃ u : Value, (madeCells v.cells (m * z.length))[j]? = some u ∧ u.oneCell' = true ∧ VR c x u := by
 have hmul : n * z.length ≤ m * z.length := Nat.mul_le_mul_right _ hnm
 refine ⟨by rw [V4, size_madeCells]; exact hmul, fun j x hj => ?_⟩
 have hjl : j < n * z.length := by have := (List.getElem?_eq_some_iff.1 hj).1; rwa [V4] at this
 rw [bh6 z hz n j hjl] at hj
 obtain ⟨u, h1, h2, h3⟩ := hx _ x hj
 refine ⟨u, ?_, h2, h3⟩
 have hlt : j % v.cells.size < v.cells.size := Nat.mod_lt _ (by omega)
 rw [← hl] at h1
 have : (madeCells v.cells (m * z.length))[j]? = some (v.cells[j % v.cells.size]!) := by
  have : j < m * z.length := by omega
  simp [madeCells, this]
 rw [this, getElem!_pos v.cells (j % v.cells.size) hlt]
 rw [Array.getElem?_eq_getElem hlt] at h1
 exact h1
theorem al6 {t : TypeId} {n : Nat} (h : ag3 P t = some n) : ∃ i, P.info? t = some i ∧ i.bytes = n := by
 unfold ag3 at h
 cases hi : P.info? t with
 | none => rw [hi] at h; cases h
 | some i => rw [hi] at h; simp at h; exact ⟨i, rfl, h⟩
theorem by2 {tg : Tag} (hI : Inv c) (ht : ¬ c.T tg) {t : TypeId} {l cp : Int} {H H' : AH} {v : AV} (hH : c.H = H.o) (hN : N tg) (h : q7 P tg t l cp H = some (v, H')) :
  bx1 P c N (Instr.makeSlice t (.int .i64 l) (.int .i64 cp)) v H'.o := by
 unfold q7 at h
 split at h
 ·cases h
 ·rename_i e he
  split at h
  ·rename_i sz by_ z hsz hby hz
   split at h
   ·rename_i hb
    injection h with h
    injection h with h1 h2
    subst h1; subst h2
    obtain ⟨h0, h1, h2, h3, h4, h5⟩ := hb
    obtain ⟨i, zv, hi, hv, hz'⟩ := J4 hz
    obtain ⟨i', hi', rfl⟩ := V2 hsz
    obtain ⟨i'', hi'', rfl⟩ := al6 hby
    obtain rfl : i = i' := by rw [hi] at hi'; injection hi'
    obtain rfl : i = i'' := by rw [hi] at hi''; injection hi''
    obtain ⟨hl, hx⟩ := J5 hz' c
    obtain ⟨m1, m2⟩ := at3 (c := c) hl hx (by omega) l.toNat cp.toNat (by omega)
    rw [h4] at m1 m2
    obtain ⟨i1, s1⟩ := ae4 hI ht e i.size true (0, 0) (fun _ => rfl) (rep z l.toNat) _ (.inl rfl) m1 m2
    refine ⟨_, _, ?_, i1, s1, by simp [Ctx.new, W8, hH], fun u hu => hu.imp id (fun e => by rw [e]; exact hN), ax9 c tg _ _ _ _ cp.toNat (by omega) (by rw [size_madeCells]; exact Nat.le_refl _)⟩
    exact run_make (P := P) c.w t e i zv (O6 he) hi hv .i64 .i64 l cp h0 h1 (by rw [Int.mul_comm]; omega) (by omega)
   ·cases h
  ·cases h
end
end Go.Proofs.YtpmjpogcaglphaaDoor.A
namespace Go.Proofs.YtpmjpogcaglphaaDoor.A
open Go
section
variable {P : Program} {c : Ctx} {N : Tag → Prop}
theorem at4 {cs new : List AV} {off : Nat} (h : off + new.length ≤ cs.length) (j : Nat) : (r8 cs off new)[j]? = if off ≤ j ∧ j < off + new.length then new[j - off]? else cs[j]? := by
 unfold r8
 have hl : (cs.take off).length = off := by simp; omega
 by_cases h1 : j < off
 ·rw [List.append_assoc, List.getElem?_append_left (by omega), List.getElem?_take, if_pos h1, if_neg (by omega)]
 ·by_cases h2 : j < off + new.length
  ·rw [List.append_assoc, List.getElem?_append_right (by omega), hl, List.getElem?_append_left (by omega), if_pos (by omega)]
  ·rw [List.getElem?_append_right (by simp; omega), List.getElem?_drop, if_neg (by omega)]
   congr 1
   simp
   omega
theorem I6 {cs new : List AV} {off : Nat} (h : off + new.length ≤ cs.length) : (r8 cs off new).length = cs.length := by simp [r8]; omega
theorem aD3 (hI : Inv c) {k g : Tag} {r : Row} (hr : W7 c.H k g = some r) (hro : r.ro = false) {off : Nat} {new : List AV} {vs : List Value} (hlen : vs.length = new.length) (hone : ∀ v ∈ vs, v.oneCell' = true)
  (hrel : ∀ (j : Nat) (x : AV) (u : Value), new[j]? = some x → vs[j]? = some u → VR c x u) (hfit : off + new.length ≤ r.cs.length) :
  ∃ c', (storeCells ⟨c.φ k, off, none⟩ vs).run P c.w = .ok () c'.w ∧ Inv c' ∧ Step c c' ∧ c'.H = upd c.H k (.row { r with cs := r8 r.cs off new }) ∧ ∀ t, c'.T t → c.T t := by
 obtain ⟨hk, hgen⟩ := K1 hr
 obtain ⟨tk, tg, _, _, cells, mk, hc, hp, hm, hl, hx⟩ := hI.row k r hk
 obtain ⟨w', cur', hrun, hw, hs, hcur⟩ := ak9 (P := P) vs 0 c.w (c.φ k) off cells r.elem mk hc (by omega) hone (by omega)
 obtain ⟨i1, s1⟩ := bg7 (g := r.gen) hI hk hro (r8 r.cs off new) (.inl rfl) hc hs hw (by rw [I6 hfit]; exact hl) hp (by rw [I6 hfit]; exact hm) (fun j x hj => by
  rw [at4 hfit] at hj
  rw [hcur j]
  simp only [Nat.add_zero]
  split at hj
  ·rename_i hb
   rw [if_pos (by omega)]
   have hjv : j - off < vs.length := by omega
   have hu : vs[j - off]? = some vs[j - off] := List.getElem?_eq_getElem hjv
   exact ⟨_, hu, hone _ (List.getElem_mem hjv), hrel _ x _ hj hu⟩
  ·rename_i hb
   rw [if_neg (by omega)]
   exact hx j x hj)
 exact ⟨_, hrun, i1, s1, rfl, fun t ht => ht.elim id (fun e => by rw [e]; exact tg)⟩
theorem bh7 (hI : Inv c) {t : TypeId} {p x : AV} {pv xv : Value} {H H' : AH} (hH : c.H = H.o) (hp : VR c p pv) (hx : VR c x xv) (h : H4 P t p x H = some H') :
  by1 P c N (Instr.storeAt t pv xv) H'.o := by
 unfold H4 at h
 split at h
 ·rename_i k g off n hn
  split at h
  ·rename_i r hr
   split at h
   ·rename_i hb
    injection h with h; subst h
    obtain ⟨h1, h2, h3, h4⟩ := hb
    rw [← hH] at hr
    obtain ⟨_, _, a, rfl, ha⟩ := hp.ptr_
    obtain rfl := ha r hr
    obtain ⟨hl, hcell⟩ := hx.cells h2
    obtain ⟨c', q1, q2, q3, q4, q5⟩ := aD3 (P := P) hI hr h3 (off := off) (new := x.cells) (vs := xv.cells.toList) (by simpa using hl) (fun v hv => by
     obtain ⟨j, hj, e⟩ := List.mem_iff_getElem.1 hv
     have hj' : j < x.cells.length := by simpa [hl] using hj
     exact (hcell j _ v (List.getElem?_eq_getElem hj') (by rw [← Array.getElem?_toList, ← e]; exact List.getElem?_eq_getElem hj)).2) (fun j y u hy hu => (hcell j y u hy (by simpa using hu)).1) (by omega)
    refine ⟨c', ?_, q2, q3, by rw [q4, hH]; rfl, fun t ht => .inl (q5 t ht)⟩
    have hsz : ¬ xv.cells.size ≠ n := by omega
    simp only [Instr.storeAt, Instr.sureAddr, pure_bind, storeVar, Sem.run_bind, w9 hn, Result.andThen_ok, if_neg hsz, q1]
   ·cases h
  ·cases h
 ·cases h
theorem al7 (hI : Inv c) {x : AV} {xv : Value} {m sz : Nat} {new : List AV} (hx : VR c x xv) (h : D2 c.H x = some (m, new)) (hlen : new.length = m * sz) :
  (Builtin.lenOf xv).run P c.w = .ok m c.w ∧ ∀ n, n ≤ m → ∃ vs : Array Value, (Builtin.firstCells sz n xv).run P c.w = .ok vs c.w ∧ vs.size = n * sz ∧ ∀ (j : Nat) (y : AV), (new.take (n * sz))[j]? = some y → ∃ u : Value, vs[j]? = some u ∧ VR c y u ∧ u.oneCell' = true := by
 have fromCells : ∀ (a : Addr) (k : Nat), (∀ (j : Nat) (y : AV), new[j]? = some y → ∃ u : Value, c.w.cell? (a.add j) = some u ∧ u.oneCell' = true ∧ VR c y u) → ∀ n, n ≤ m → ∃ vs : Array Value, (loadCells a (n * sz)).run P c.w = .ok vs c.w ∧ vs.size = n * sz ∧ ∀ (j : Nat) (y : AV), (new.take (n * sz))[j]? = some y → ∃ u : Value, vs[j]? = some u ∧ VR c y u ∧ u.oneCell' = true := by
  intro a _ hc n hn
  have hmul : n * sz ≤ m * sz := Nat.mul_le_mul_right _ hn
  have hex : ∀ j, ∃ u : Value, j < n * sz → c.w.cell? (a.add j) = some u ∧ u.oneCell' = true ∧ ∀ y, new[j]? = some y → VR c y u := fun j => by
   by_cases hj : j < n * sz
   ·obtain ⟨u, h1, h2, h3⟩ := hc j _ (List.getElem?_eq_getElem (show j < new.length by omega))
    exact ⟨u, fun _ => ⟨h1, h2, fun y hy => by rw [List.getElem?_eq_getElem (show j < new.length by omega)] at hy; injection hy with hy; subst hy; exact h3⟩⟩
   ·exact ⟨undef, fun h => absurd h hj⟩
  obtain ⟨f, hf⟩ := Classical.axiomOfChoice hex
  refine ⟨((List.range (n * sz)).map f).toArray, run_loadCells (P := P) c.w a (n * sz) f (fun j hj => (hf j hj).1), by simp, fun j y hy => ?_⟩
  rw [List.getElem?_take] at hy
  split at hy
  ·rename_i hj
   exact ⟨f j, by simp [hj], (hf j hj).2.2 y hy, (hf j hj).2.1⟩
  ·cases hy
 unfold D2 at h
 split at h
 ·rename_i s
  injection h with h
  injection h with h1 h2
  subst h1; subst h2
  obtain rfl := hx.str_
  refine ⟨by simp [Builtin.lenOf, I5], fun n hn => ?_⟩
  have hs : s.length * sz = s.length := by simpa using hlen.symm
  have hn' : n * sz = n := by
   by_cases h0 : s.length = 0
   ·obtain rfl : n = 0 := by omega
    simp
   ·have : sz = 1 := Nat.mul_left_cancel (n := s.length) (by omega) (by rw [hs, Nat.mul_one])
    rw [this, Nat.mul_one]
  have hmin : min n s.length = n := Nat.min_eq_left hn
  refine ⟨((((⟨s.toArray⟩ : ByteArray).extract 0 n).data).map fun b => .int .u8 b.toNat), rfl, ?_, fun j y hy => ?_⟩
  ·rw [ByteArray.extract_mk, hn']; simp [hmin]
  ·rw [hn', List.getElem?_take] at hy
   split at hy
   ·rename_i hj
    rw [List.getElem?_map] at hy
    cases hb : s[j]? with
    | none => rw [hb] at hy; cases hy
    | some b =>
     rw [hb] at hy
     simp only [Option.map_some] at hy
     injection hy with hy
     subst hy
     refine ⟨.int .u8 b.toNat, ?_, VR.int .., rfl⟩
     rw [ByteArray.extract_mk]
     simp only [List.drop_zero, Nat.sub_zero, Array.getElem?_map, List.getElem?_toArray, List.getElem?_take, if_pos hj, hb, Option.map_some]
   ·cases hy
 ·unfold z7 at h
  split at h
  ·injection h with h
   injection h with h1 h2
   subst h1; subst h2
   obtain rfl := hx.nil_
   refine ⟨rfl, fun n hn => ?_⟩
   obtain rfl : n = 0 := by omega
   exact ⟨#[], rfl, by simp, fun j y hy => by simp at hy⟩
  ·rename_i n' cs _
   injection h with h
   injection h with h1 h2
   subst h1; subst h2
   obtain ⟨A, cap, rfl, hn, hA0, hA, hc⟩ := hx.sl_
   refine ⟨rfl, fun n hn => ?_⟩
   cases A with
   | none =>
    have hz : n' = 0 := by
     rcases Nat.eq_zero_or_pos n' with h | h
     ·exact h
     ·obtain ⟨a, ha⟩ := hA0 h
      cases ha
    obtain rfl : n = 0 := by omega
    exact ⟨#[], rfl, by simp, fun j y hy => by simp at hy⟩
   | some a =>
    obtain ⟨vs, q1, q2, q3⟩ := fromCells a 0 (fun j y hy => by obtain ⟨u, a1, a2, a3⟩ := hc a j y rfl hy; exact ⟨u, a1, a2, .data _ _ a3⟩) n hn
    exact ⟨vs, q1, q2, q3⟩
  ·rename_i k g off n' _
   split at h
   ·rename_i r hr
    injection h with h
    injection h with h1 h2
    subst h1
    obtain ⟨_, _, A, cap, rfl, hn, hA, hh⟩ := hx.ref_
    refine ⟨rfl, fun n hn => ?_⟩
    cases A with
    | none =>
     have hz : n' = 0 := by
      rcases Nat.eq_zero_or_pos n' with h | h
      ·exact h
      ·obtain ⟨a, ha⟩ := hA (.inr h)
       cases ha
     obtain rfl : n = 0 := by omega
     exact ⟨#[], rfl, by simp, fun j y hy => by simp at hy⟩
    | some a =>
     obtain ⟨q, _⟩ := hh r hr
     by_cases h0 : off = 0 ∨ 0 < n'
     ·have := q h0
      injection this with this
      subst this
      obtain ⟨vs, q1, q2, q3⟩ := fromCells _ 0 (fun j y hy => by
       rw [← h2] at hy
       rw [List.getElem?_take] at hy
       split at hy
       ·exact S5 hI (K1 hr).1 off j y hy
       ·cases hy) n hn
      exact ⟨vs, q1, q2, q3⟩
     ·obtain rfl : n = 0 := by omega
      obtain ⟨vs, q1, q2, q3⟩ : ∃ vs : Array Value, (loadCells a (0 * sz)).run P c.w = .ok vs c.w ∧ vs.size = 0 * sz ∧ ∀ (j : Nat) (y : AV), (new.take (0 * sz))[j]? = some y → ∃ u : Value, vs[j]? = some u ∧ VR c y u ∧ u.oneCell' = true := ⟨#[], by simp [loadCells, loadCellsFrom], by simp, fun j y hy => by simp at hy⟩
      exact ⟨vs, q1, q2, q3⟩
   ·cases h
  ·cases h
theorem ay0 {e : TypeId} {i : TypeInfo} {v : Value} (hi : P.info? e = some i) (hv : i.zero = some v) (w : World) : (zeroValue e).run P w = .ok v w := by simp [zeroValue, typeInfo, hi, hv]
theorem ag7 {t xt ty e : TypeId} {base : Option Addr} {n cap m : Nat} {xv : Value} {i : TypeInfo} {z : Value} (hu : P.underlying t = some (.slice e)) (hxt : P.underlying xt = some .string ∨ ∃ e', P.underlying xt = some (.slice e')) (hi : P.info? e = some i) (hz : i.zero = some z)
  (hb0 : i.bytes ≠ 0) (hlen : (Builtin.lenOf xv).run P c.w = .ok m c.w) {news olds : Array Value} (h1 : (Builtin.firstCells i.size m xv).run P c.w.drew = .ok news c.w.drew) (h2 : (Builtin.firstCells i.size n (.slice base n cap)).run P c.w.drew = .ok olds c.w.drew)
  (hgr : cap < n + m) (hby : (n + m) * i.bytes ≤ 140737488355328) :
  (Builtin.append_ #[t, xt] ty #[.slice base n cap, xv]).run P c.w = .ok (.slice (some ⟨c.w.heap.size, 0, none⟩) (n + m) (grownCap c.w (n + m) cap e)) (c.w.drew.alloc (.cells (olds ++ news ++ Builtin.zeroCells z.cells (grownCap c.w (n + m) cap e - (n + m))) e)) := by
 have h48 : ¬ (281474976710656 < Builtin.nextslicecap (n + m) cap * i.bytes) := by have := growslice_fits hgr hby; omega
 have hn : ¬ (n + m ≤ cap) := by omega
 rcases hxt with hxt | ⟨e', hxt⟩ <;> simp [Builtin.append_, run_underlying hu, run_underlying hxt, sizeOf, typeInfo, zeroValue, hi, hz, hlen, hn, hb0, h48, Question.forced, newRow, grownCap, h1, h2]
theorem aK7 {t xt ty e : TypeId} {a : Addr} {n cap m : Nat} {xv : Value} {i : TypeInfo} (hu : P.underlying t = some (.slice e)) (hxt : P.underlying xt = some .string ∨ ∃ e', P.underlying xt = some (.slice e')) (hi : P.info? e = some i)
  (hlen : (Builtin.lenOf xv).run P c.w = .ok m c.w) {news : Array Value} (h1 : (Builtin.firstCells i.size m xv).run P c.w = .ok news c.w) {w' : World} (h2 : (storeCells (a.add (n * i.size)) news.toList).run P c.w = .ok () w') (hfit : n + m ≤ cap) :
  (Builtin.append_ #[t, xt] ty #[.slice (some a) n cap, xv]).run P c.w = .ok (.slice (some a) (n + m) cap) w' := by
 rcases hxt with hxt | ⟨e', hxt⟩ <;> simp [Builtin.append_, run_underlying hu, run_underlying hxt, sizeOf, typeInfo, hi, hlen, hfit, h1, h2]
theorem aK8 {t xt ty e : TypeId} {xv : Value} {i : TypeInfo} (hu : P.underlying t = some (.slice e)) (hxt : P.underlying xt = some .string ∨ ∃ e', P.underlying xt = some (.slice e')) (hi : P.info? e = some i)
  (hlen : (Builtin.lenOf xv).run P c.w = .ok 0 c.w) {news : Array Value} (h1 : (Builtin.firstCells i.size 0 xv).run P c.w = .ok news c.w) :
  (Builtin.append_ #[t, xt] ty #[.slice none 0 0, xv]).run P c.w = .ok (.slice none 0 0) c.w := by
 rcases hxt with hxt | ⟨e', hxt⟩ <;> simp [Builtin.append_, run_underlying hu, run_underlying hxt, sizeOf, typeInfo, hi, hlen, h1]
theorem bO1 {xt : TypeId} (h : ¬ (ar5 (P.underlying xt) = false ∧ (E7 P xt).isSome = false)) : P.underlying xt = some .string ∨ ∃ e', P.underlying xt = some (.slice e') := by
 by_cases h1 : ar5 (P.underlying xt) = false
 ·cases he : E7 P xt with
  | none => exact absurd ⟨h1, by rw [he]; rfl⟩ h
  | some e => exact .inr ⟨e, O6 he⟩
 ·exact .inl (ad5 (by simpa using h1))
theorem aZ0 {tg : Tag} (hI : Inv c) (ht : ¬ c.T tg) {t xt ty : TypeId} {s x v : AV} {sv xv : Value} {H H' : AH} (hH : c.H = H.o) (hN : N tg) (hs : VR c s sv) (hx : VR c x xv) (h : w6 P tg t xt s x H = some (v, H')) :
  bx1 P c N (Builtin.append_ #[t, xt] ty #[sv, xv]) v H'.o := by
 unfold w6 at h
 split at h
 ·cases h
 ·rename_i e he
  have hu := O6 he
  split at h
  ·rename_i sz by_ z m new hsz hby hz hsrc
   split at h
   ·cases h
   ·rename_i hcond
    have hzl0 : z.length = sz := Classical.byContradiction fun hh => hcond (.inl hh)
    have hxt := bO1 (P := P) (xt := xt) (fun hh => hcond (.inr (.inl hh)))
    have hnl : new.length = m * sz := Classical.byContradiction fun hh => hcond (.inr (.inr (.inl hh)))
    have hsz0 : sz ≠ 0 := fun hh => hcond (.inr (.inr (.inr (.inl hh))))
    have hby0 : by_ ≠ 0 := fun hh => hcond (.inr (.inr (.inr (.inr (.inl hh)))))
    obtain ⟨i, zv, hi, hzv, hz'⟩ := J4 hz
    obtain ⟨i', hi', rfl⟩ := V2 hsz
    obtain ⟨i'', hi'', rfl⟩ := al6 hby
    obtain rfl : i = i' := by rw [hi] at hi'; injection hi'
    obtain rfl : i = i'' := by rw [hi] at hi''; injection hi''
    rw [← hH] at hsrc
    obtain ⟨hlen, hfirst⟩ := al7 (P := P) hI hx hsrc hnl
    obtain ⟨news, q1, q2, q3⟩ := hfirst m (Nat.le_refl _)
    rw [List.take_of_length_le (by omega)] at q3
    -- behind a draw
    obtain ⟨iD, sD⟩ := ad8 (c := c) (w := c.w.drew) hI rfl rfl rfl rfl
    have hxD : VR (c.world c.w.drew) x xv := hx.mono sD.mono
    obtain ⟨hlenD, hfirstD⟩ := al7 (P := P) (c := c.world c.w.drew) iD hxD hsrc hnl
    obtain ⟨newsD, d1, d2, d3⟩ := hfirstD m (Nat.le_refl _)
    rw [List.take_of_length_le (by omega)] at d3
    split at h
    ·obtain rfl := hs.nil_
     split at h
     ·rename_i hm
      injection h with h
      injection h with h1 h2
      subst h1; subst h2; subst hm
      exact Says.does hI ⟨_, aK8 hu hxt hi hlen q1, .data _ _ .nil⟩ hH
     ·split at h
      ·rename_i hm hb
       injection h with h
       injection h with h1 h2
       subst h1; subst h2
       have hrun := ag7 (P := P) (c := c) (ty := ty) (base := none) (n := 0) (cap := 0) hu hxt hi hzv hby0 hlen d1 (olds := #[]) rfl (by omega) (by rw [Nat.zero_add]; exact hb)
       have hge := grownCap_ge c.w (0 + m) 0 e
       have hzl : zv.cells.size = i.size := by
        obtain ⟨a, _⟩ := J5 hz' c
        omega
       obtain ⟨i1, s1⟩ := ae4 (c := c.world c.w.drew) (t := tg) iD ht e i.size true (0, 0) (fun _ => rfl) new (#[] ++ newsD ++ Builtin.zeroCells zv.cells (grownCap c.w (0 + m) 0 e - (0 + m))) (.inl rfl) (by simp only [Array.size_append, d2]; omega) (fun j y hy => by
        obtain ⟨u, a1, a2, a3⟩ := d3 j y hy
        refine ⟨u, ?_, a3, a2⟩
        have hj : j < newsD.size := (Array.getElem?_eq_some_iff.1 a1).1
        rw [Array.getElem?_append_left (by simpa using hj)]
        simpa using a1)
       refine ⟨_, _, hrun, i1, sD.trans s1, by simp [Ctx.new, Ctx.world, W8, hH], fun u hu => hu.imp id (fun e => by rw [e]; exact hN), ?_⟩
       have hcap : grownCap c.w (0 + m) 0 e * i.size ≤ (#[] ++ newsD ++ Builtin.zeroCells zv.cells (grownCap c.w (0 + m) 0 e - (0 + m))).size := by
        simp only [Array.size_append, d2, size_zeroCells, hzl, List.size_toArray, List.length_nil, Nat.zero_add]
        rw [Nat.zero_add] at hge
        rw [← Nat.add_mul]
        exact Nat.mul_le_mul_right _ (by omega)
       have := ax9 (c.world c.w.drew) tg { elem := e, sz := i.size, gen := tg, ro := false, plain := true, cs := new } (0, 0) _ m _ (by omega) hcap
       rw [Nat.zero_add] at this ⊢
       exact this
      ·cases h
    ·rename_i k g n
     split at h
     ·rename_i r hr
      split at h
      ·rename_i hb
       injection h with h
       injection h with h1 h2
       subst h1; subst h2
       obtain ⟨b1, b2, b3, b4, b5, b6⟩ := hb
       rw [← hH] at hr
       obtain ⟨hkr, hgen⟩ := K1 hr
       obtain ⟨tk, tgg, A, cap, rfl, hn, hA, hrr⟩ := hs.ref_
       obtain ⟨hA', hcapb⟩ := hrr r hr
       obtain rfl := hA' (.inl rfl)
       obtain ⟨_, _, _, _, cells, mk0, hc, hp0, hm0, hl, hxc⟩ := hI.row k r hkr
       obtain rfl := hp0 b4
       have hcap := hcapb rfl cells _ _ hc
       rw [b2] at hcap
       have hmulm : (n + m) * i.size = n * i.size + m * i.size := Nat.add_mul ..
       by_cases hfit : n + m ≤ cap
       ·-- in place
        have hle : (n + m) * i.size ≤ cap * i.size := Nat.mul_le_mul_right _ hfit
        obtain ⟨w', cur', hst, hw, hsz', hcur⟩ := ak9 (P := P) news.toList 0 c.w (c.φ k) (n * i.size) cells r.elem (0, 0) hc (by simp; omega) (fun v hv => by
         obtain ⟨j, hj, e'⟩ := List.mem_iff_getElem.1 hv
         have hj' : j < new.length := by rw [hnl, ← q2]; simpa using hj
         obtain ⟨u, a1, a2, a3⟩ := q3 j _ (List.getElem?_eq_getElem hj')
         have : news[j]? = some v := by rw [← Array.getElem?_toList, ← e']; exact List.getElem?_eq_getElem hj
         rw [this] at a1
         injection a1 with a1
         rw [a1]
         exact a3) (.inl (Nat.zero_le _))
        obtain ⟨i1, s1⟩ := bg7 (g := tg) hI hkr b3 (r.cs.take (n * i.size) ++ new) (.inr ht) hc hsz' hw (by simp; omega) (fun _ => rfl) (.inl rfl) (fun j y hy => by
         rw [hcur j]
         simp only [Nat.add_zero, Array.length_toList, q2]
         by_cases hj : j < n * i.size
         ·rw [if_neg (by omega)]
          rw [List.getElem?_append_left (by simp; omega), List.getElem?_take, if_pos hj] at hy
          exact hxc j y hy
         ·rw [List.getElem?_append_right (by simp; omega)] at hy
          have hlen' : (r.cs.take (n * i.size)).length = n * i.size := by simp; omega
          rw [hlen'] at hy
          have hj2 : j - n * i.size < m * i.size := by have := (List.getElem?_eq_some_iff.1 hy).1; omega
          rw [if_pos (by omega)]
          obtain ⟨u, a1, a2, a3⟩ := q3 _ y hy
          exact ⟨u, by simpa using a1, a3, a2⟩)
        refine ⟨_, _, aK7 (P := P) (c := c) (ty := ty) hu hxt hi hlen q1 (w' := w') (by rw [H5, Nat.zero_add]; exact hst) hfit, i1, s1, by simp [Ctx.put, ak7, hH], fun u hu => hu.imp id (fun e => by rw [e]; exact hN), ?_⟩
        refine .ref k tg 0 (n + m) _ _ (.inl tk) (.inr rfl) hfit (fun _ => ⟨_, rfl⟩) fun r' hr' _ => ⟨fun _ => rfl, fun _ cl e' mk hcl => ?_⟩
        have hcl' : w'.heap[c.φ k]? = some (.cells cl e' mk) := hcl
        rw [hw.at_] at hcl'
        injection hcl' with hcl'
        injection hcl' with hcl'
        have hr3 := hr'
        simp only [Ctx.put] at hr3
        rw [f8] at hr3
        injection hr3 with hr3
        injection hr3 with hr3
        rw [← hcl', ← hr3, hsz']
        dsimp only
        rw [b2]
        exact hcap
       ·-- a new block
        have hsD : VR (c.world c.w.drew) (.ref k g 0 n) (.slice (some ⟨c.φ k, 0, none⟩) n cap) := hs.mono sD.mono
        obtain ⟨_, hfs⟩ := al7 (P := P) (c := c.world c.w.drew) (sz := i.size) iD hsD (m := n) (new := (r.cs.drop 0).take (n * r.sz)) (by
         have hr2 : W7 (c.world c.w.drew).H k g = some r := hr
         simp [D2, z7, hr2]) (by rw [b2]; simp; omega)
        obtain ⟨olds, o1, o2, o3⟩ := hfs n (Nat.le_refl _)
        have hrun := ag7 (P := P) (c := c) (ty := ty) hu hxt hi hzv hby0 hlen d1 o1 (by omega) b6
        have hge := grownCap_ge c.w (n + m) cap e
        have hzl : zv.cells.size = i.size := by
         obtain ⟨a, _⟩ := J5 hz' c
         omega
        obtain ⟨i1, s1⟩ := bx9 (c := c.world c.w.drew) iD hkr b3 { r with gen := tg, cs := r.cs.take (n * i.size) ++ new } ht b3 (olds ++ newsD ++ Builtin.zeroCells zv.cells (grownCap c.w (n + m) cap e - (n + m))) (by simp [o2, d2]; omega) (fun j y hy => by
         by_cases hj : j < n * i.size
         ·rw [List.getElem?_append_left (by simp; omega)] at hy
          obtain ⟨u, a1, a2, a3⟩ := o3 j y (by rw [b2]; simp only [List.drop_zero, List.take_take, Nat.min_self]; exact hy)
          refine ⟨u, ?_, a3, a2⟩
          have hj' : j < olds.size := (Array.getElem?_eq_some_iff.1 a1).1
          rw [Array.append_assoc, Array.getElem?_append_left hj']
          exact a1
         ·rw [List.getElem?_append_right (by simp; omega)] at hy
          have hlen' : (r.cs.take (n * i.size)).length = n * i.size := by simp; omega
          rw [hlen'] at hy
          obtain ⟨u, a1, a2, a3⟩ := d3 _ y hy
          refine ⟨u, ?_, a3, a2⟩
          have hj' : j - n * i.size < newsD.size := (Array.getElem?_eq_some_iff.1 a1).1
          rw [Array.append_assoc, Array.getElem?_append_right (by omega), o2, Array.getElem?_append_left hj']
          exact a1)
        rw [b1] at i1 s1
        refine ⟨_, _, hrun, i1, sD.trans s1, by simp [Ctx.moved, Ctx.world, ak7, hH, b1], fun u hu => hu.imp id (fun e => by rw [e]; exact hN), ?_⟩
        refine .ref k tg 0 (n + m) _ _ (.inl tk) (.inr rfl) hge (fun _ => ⟨_, rfl⟩) fun r' hr' _ => ⟨fun _ => by simp [Ctx.moved, Ctx.world], fun _ cl e' mk hcl => ?_⟩
        have hr3 := hr'
        simp only [Ctx.moved] at hr3
        rw [f8] at hr3
        injection hr3 with hr3
        injection hr3 with hr3
        have hcl' := hcl
        simp only [Ctx.moved, if_true] at hcl'
        rw [F0] at hcl'
        injection hcl' with hcl'
        injection hcl' with hcl'
        rw [← hcl', ← hr3]
        dsimp only
        rw [b2]
        simp only [Array.size_append, o2, d2, size_zeroCells, hzl]
        rw [← Nat.add_mul, ← Nat.add_mul]
        exact Nat.mul_le_mul_right _ (by omega)
      ·cases h
     ·cases h
    ·cases h
  ·cases h
end
end Go.Proofs.YtpmjpogcaglphaaDoor.A
namespace Go.Proofs.YtpmjpogcaglphaaDoor.A
open Go
section
variable {P : Program} {c : Ctx} {N : Tag → Prop}
theorem by3 (hI : Inv c) {t xt ty : TypeId} {rest : List TypeId} {d x v : AV} {dv xv : Value} {H H' : AH} (hH : c.H = H.o) (hd : VR c d dv) (hx : VR c x xv) (h : P7 P t d x H = some (v, H')) :
  bx1 P c N (Builtin.copy_ (t :: rest).toArray ty #[dv, xv]) v H'.o := by
 unfold P7 at h
 split at h
 ·rename_i sz m new hsz hsrc
  obtain ⟨e, hu, hs⟩ := V3 hsz
  rw [← hH] at hsrc
  split at h
  ·rename_i k g off n
   split at h
   ·rename_i r hr
    dsimp only at h
    split at h
    ·rename_i hb
     injection h with h
     injection h with h1 h2
     subst h1; subst h2
     obtain ⟨b0, b1, b2, b3, b4, b5⟩ := hb
     rw [← hH] at hr
     obtain ⟨_, _, A, cap, rfl, hn, hA, hrr⟩ := hd.ref_
     obtain ⟨hA', _⟩ := hrr r hr
     obtain rfl := hA' b0
     obtain ⟨hlen, hfirst⟩ := al7 (P := P) hI hx hsrc b4
     obtain ⟨vs, q1, q2, q3⟩ := hfirst (Nat.min m n) (Nat.min_le_left _ _)
     have hle : Nat.min m n * sz ≤ m * sz := Nat.mul_le_mul_right _ (Nat.min_le_left _ _)
     have hle2 : Nat.min m n * sz ≤ n * sz := Nat.mul_le_mul_right _ (Nat.min_le_right _ _)
     have hnl : (new.take (Nat.min m n * sz)).length = Nat.min m n * sz := by simp only [List.length_take]; omega
     obtain ⟨c', w1, w2, w3, w4, w5⟩ := aD3 (P := P) hI hr b2 (off := off) (new := new.take (Nat.min m n * sz)) (vs := vs.toList) (by rw [hnl]; simpa using q2) (fun u hu => by
      obtain ⟨j, hj, e'⟩ := List.mem_iff_getElem.1 hu
      have hj' : j < (new.take (Nat.min m n * sz)).length := by rw [hnl, ← q2]; simpa using hj
      obtain ⟨u', a1, a2, a3⟩ := q3 j _ (List.getElem?_eq_getElem hj')
      have : vs[j]? = some u := by rw [← Array.getElem?_toList, ← e']; exact List.getElem?_eq_getElem hj
      rw [this] at a1
      injection a1 with a1
      rw [a1]
      exact a3) (fun j y u hy hu => by
      obtain ⟨u', a1, a2, _⟩ := q3 j y hy
      rw [Array.getElem?_toList] at hu
      rw [hu] at a1
      injection a1 with a1
      rw [a1]
      exact a2) (by rw [hnl]; omega)
     refine ⟨_, c', ?_, w2, w3, by rw [w4, hH]; rfl, fun t ht => .inl (w5 t ht), VR.int ..⟩
     have hmin : Nat.min m n = min m n := rfl
     simp [Builtin.copy_, run_underlying hu, hlen, w9 hs, q1, w1, goInt]
    ·cases h
   ·cases h
  ·split at h
   ·rename_i b4
    injection h with h
    injection h with h1 h2
    subst h1; subst h2
    obtain rfl := hd.nil_
    obtain ⟨hlen, hfirst⟩ := al7 (P := P) hI hx hsrc b4
    obtain ⟨vs, q1, q2, q3⟩ := hfirst 0 (Nat.zero_le _)
    have hmin : Nat.min m 0 = 0 := Nat.min_zero m
    refine Says.does hI ⟨.int .i64 0, ?_, VR.int ..⟩ hH
    simp [Builtin.copy_, run_underlying hu, hlen, w9 hs, q1, goInt]
   ·cases h
  ·cases h
 ·cases h
def V5 (c : Ctx) : List (Nat × AV) → List (Nat × Value) → Prop
 | [], [] => True
 | (i, x) :: ps, (j, v) :: vs => i = j ∧ VR c x v ∧ V5 c ps vs
 | _, _ => False
theorem al8 {a : n8} {ca : Act} (hA : AR c a ca) : ∀ {parts : List (Nat × Operand)} {ps : List (Nat × AV)}, A4 a parts = some ps → V5 c ps (parts.map fun p => (p.1, ca.eval p.2))
 | [], ps, h => by
  simp only [A4] at h
  injection h with h; subst h
  trivial
 | (i, x) :: parts, ps, h => by
  simp only [A4] at h
  split at h
  ·rename_i v vs hv hvs
   injection h with h; subst h
   exact ⟨rfl, o9 hA hv, al8 hA hvs⟩
  ·cases h
theorem aD4 (off : Nat) : ∀ (l : List Value) (i : Nat) (cells : Array Value) (j : Nat), off + i + l.length ≤ cells.size → ((l.zipIdx i).foldl (fun cs p => cs.setIfInBounds (off + p.2) p.1) cells).size = cells.size ∧
  ((l.zipIdx i).foldl (fun cs p => cs.setIfInBounds (off + p.2) p.1) cells)[j]? = if off + i ≤ j ∧ j < off + i + l.length then l[j - (off + i)]? else cells[j]?
 | [], i, cells, j, _ => ⟨rfl, by rw [if_neg (by simp only [List.length_nil]; omega)]; rfl⟩
 | v :: l, i, cells, j, h => by
  simp only [List.length_cons] at h
  simp only [List.zipIdx_cons, List.foldl_cons]
  obtain ⟨h1, h2⟩ := aD4 off l (i + 1) (cells.setIfInBounds (off + i) v) j (by simp; omega)
  refine ⟨by rw [h1]; simp, ?_⟩
  rw [h2]
  simp only [List.length_cons]
  by_cases a : off + (i + 1) ≤ j ∧ j < off + (i + 1) + l.length
  ·rw [if_pos a, if_pos (by omega), show j - (off + i) = (j - (off + (i + 1))) + 1 by omega]
   simp
  ·rw [if_neg a]
   by_cases b : j = off + i
   ·subst b
    rw [if_pos (by omega)]
    have : off + i < cells.size := by omega
    simp [this]
   ·rw [if_neg (by omega), Array.getElem?_setIfInBounds_ne (by omega)]
def aa1 (c : Ctx) (xs : List AV) (vs : Array Value) : Prop := vs.size = xs.length ∧ ∀ (j : Nat) (x : AV), xs[j]? = some x → ∃ u : Value, vs[j]? = some u ∧ u.oneCell' = true ∧ VR c x u
theorem aj3 {place : Nat → Option (Nat × Nat)} : ∀ {ps : List (Nat × AV)} {vs : List (Nat × Value)} {cells cs : List AV} {ccells : Array Value}, V5 c ps vs → aa1 c cells ccells → y7 place cells ps = some cs → ∃ ccs, Instr.fill place ccells vs = some ccs ∧ aa1 c cs ccs
 | [], [], cells, cs, ccells, _, hc, h => by
  simp only [y7] at h
  injection h with h; subst h
  exact ⟨ccells, rfl, hc⟩
 | [], _ :: _, _, _, _, hp, _, _ => hp.elim
 | _ :: _, [], _, _, _, hp, _, _ => hp.elim
 | (i, x) :: ps, (j, v) :: vs, cells, cs, ccells, hp, hc, h => by
  obtain ⟨rfl, hx, hp⟩ := hp
  simp only [y7] at h
  split at h
  ·cases h
  ·rename_i off size hpl
   split at h
   ·rename_i hb
    obtain ⟨b1, b2, b3⟩ := hb
    obtain ⟨hl, hh⟩ := hx.cells b3
    have hf := aD4 off v.cells.toList 0 ccells
    have hfit : off + x.cells.length ≤ cells.length := by omega
    have hcell : aa1 c (r8 cells off x.cells) (v.cells.zipIdx.foldl (fun cs p => cs.setIfInBounds (off + p.2) p.1) ccells) := by
     rw [← Array.foldl_toList, Array.toList_zipIdx]
     refine ⟨?_, fun q y hy => ?_⟩
     ·rw [(hf 0 (by simp; have := hc.1; omega)).1, I6 hfit]
      exact hc.1
     ·rw [(hf q (by simp; have := hc.1; omega)).2]
      rw [at4 hfit] at hy
      simp only [Nat.add_zero, Array.length_toList, hl]
      split at hy
      ·rename_i hq
       rw [if_pos hq]
       have hlt : q - off < v.cells.size := by omega
       have hu : v.cells[q - off]? = some v.cells[q - off] := by simp [hlt]
       obtain ⟨a1, a2⟩ := hh _ y _ hy hu
       exact ⟨_, by simp [hlt], a2, a1⟩
      ·rename_i hq
       rw [if_neg hq]
       exact hc.2 q y hy
    obtain ⟨ccs, r1, r2⟩ := aj3 hp hcell h
    refine ⟨ccs, ?_, r2⟩
    have hcs := hc.1
    have hn : (v.cells.size ≠ size || decide (off + v.cells.size > ccells.size)) = false := by
     simp; omega
    simp only [Instr.fill, hpl]
    simp only [hn]
    exact r1
   ·cases h
theorem S6 (w : World) : ∀ {fs : List Field} {ps : List (Nat × Nat)}, J8 P fs = some ps → (fs.mapM (m := Sem) fun f => do pure (f.offset, ← sizeOf f.type)).run P w = .ok ps w
 | [], ps, h => by
  simp only [J8] at h
  injection h with h; subst h
  rfl
 | f :: fs, ps, h => by
  simp only [J8] at h
  split at h
  ·rename_i s r hs hr
   injection h with h; subst h
   simp only [List.mapM_cons, Sem.run_bind, w9 hs, Result.andThen_ok, Sem.run_pure, S6 w hr]
  ·cases h
theorem aR2 {v : Value} {z : List AV} (h : N3 v.cells.toList = some z) (c : Ctx) : aa1 c z v.cells := J5 h c
theorem bh8 {t : TypeId} {parts : Array (Nat × Value)} {ps : List (Nat × AV)} {v : AV} (hp : V5 c ps parts.toList) (h : D3 P t ps = some v) : Says P c (Instr.build t parts) v := by
 unfold D3 at h
 split at h
 ·rename_i z fs hz hu
  split at h
  ·rename_i places hpl
   obtain ⟨i, zv, hi, hzv, hz'⟩ := J4 hz
   cases hf : y7 (fun i => places[i]?) z ps with
   | none => rw [hf] at h; cases h
   | some cs =>
    rw [hf] at h
    injection h with h; subst h
    obtain ⟨ccs, f1, f2⟩ := aj3 (place := fun i => places[i]?) hp (aR2 hz' c) hf
    have hm := S6 (P := P) c.w hpl
    refine ⟨.agg ccs, ?_, .agg _ _ f2.1 (fun j x u hx hu => by
     obtain ⟨u', a1, _, a3⟩ := f2.2 j x hx
     rw [hu] at a1
     injection a1 with a1
     rw [a1]
     exact a3) (fun j u hu => by
     have hj : j < cs.length := by rw [← f2.1]; exact (Array.getElem?_eq_some_iff.1 hu).1
     obtain ⟨u', a1, a2, _⟩ := f2.2 j _ (List.getElem?_eq_getElem hj)
     rw [hu] at a1
     injection a1 with a1
     rw [a1]
     exact a2)⟩
    have hm' : (fs.mapM (m := Sem) fun f => do pure (f.offset, ← sizeOf f.type)).run P c.w = .ok places.toArray c.w := by
     rw [Array.mapM_eq_mapM_toList, Sem.run_map, hm]
     rfl
    simp only [Instr.build, zeroValue, Sem.run_bind, typeInfo, run_program, hi, Result.andThen_ok, Sem.run_pure, hzv, run_underlying hu, hm', List.getElem?_toArray, f1]
  ·cases h
 ·rename_i z n e hz hu
  split at h
  ·rename_i s hs
   obtain ⟨i, zv, hi, hzv, hz'⟩ := J4 hz
   cases hf : y7 (fun i => some (i * s, s)) z ps with
   | none => rw [hf] at h; cases h
   | some cs =>
    rw [hf] at h
    injection h with h; subst h
    obtain ⟨ccs, f1, f2⟩ := aj3 (place := fun i => some (i * s, s)) hp (aR2 hz' c) hf
    refine ⟨.agg ccs, ?_, .agg _ _ f2.1 (fun j x u hx hu => by
     obtain ⟨u', a1, _, a3⟩ := f2.2 j x hx
     rw [hu] at a1
     injection a1 with a1
     rw [a1]
     exact a3) (fun j u hu => by
     have hj : j < cs.length := by rw [← f2.1]; exact (Array.getElem?_eq_some_iff.1 hu).1
     obtain ⟨u', a1, a2, _⟩ := f2.2 j _ (List.getElem?_eq_getElem hj)
     rw [hu] at a1
     injection a1 with a1
     rw [a1]
     exact a2)⟩
    simp only [Instr.build, zeroValue, Sem.run_bind, typeInfo, run_program, hi, Result.andThen_ok, Sem.run_pure, hzv, run_underlying hu, w9 hs, f1]
  ·cases h
 ·cases h
theorem ar6 {tg : Tag} (hI : Inv c) (ht : ¬ c.T tg) {t : TypeId} {len : Nat} {parts : Array (Nat × Value)} {ps : List (Nat × AV)} {H H' : AH} {v : AV} (hH : c.H = H.o) (hN : N tg) (hp : V5 c ps parts.toList) (h : l7 P tg t len ps H = some (v, H')) :
  bx1 P c N (Instr.buildSlice t len parts) v H'.o := by
 unfold l7 at h
 split at h
 ·cases h
 ·rename_i e he
  split at h
  ·rename_i sz z hsz hz
   split at h
   ·rename_i hb
    obtain ⟨b1, b2, b3⟩ := hb
    split at h
    ·rename_i cs hf
     injection h with h
     injection h with h1 h2
     subst h1; subst h2
     obtain ⟨i, zv, hi, hzv, hz'⟩ := J4 hz
     obtain ⟨hl, hx⟩ := J5 hz' c
     subst b2
     obtain ⟨m1, m2⟩ := at3 (c := c) hl hx (by omega) len len (Nat.le_refl _)
     have hone : aa1 c (rep z len) (madeCells zv.cells (len * z.length)) := ⟨by rw [size_madeCells, V4], m2⟩
     obtain ⟨ccs, f1, f2⟩ := aj3 (place := fun i => some (i * z.length, z.length)) hp hone hf
     have hlen : cs.length = len * z.length := by
      have : ∀ {place} {ps : List (Nat × AV)} {cells cs : List AV}, y7 place cells ps = some cs → cs.length = cells.length := by
       intro place ps
       induction ps with
       | nil => intro cells cs h; simp only [y7] at h; injection h with h; rw [h]
       | cons p ps ih =>
        intro cells cs h
        obtain ⟨i, x⟩ := p
        simp only [y7] at h
        split at h
        ·cases h
        ·split at h
         ·rename_i hb
          rw [ih h, I6 (by omega)]
         ·cases h
      rw [this hf, V4]
     obtain ⟨i1, s1⟩ := ae4 hI ht e z.length true (0, 0) (fun _ => rfl) cs ccs (.inl rfl) (by rw [f2.1]; exact Nat.le_refl _) f2.2
     refine ⟨_, _, ?_, i1, s1, by simp [Ctx.new, W8, hH], fun u hu => hu.imp id (fun e => by rw [e]; exact hN), ax9 c tg _ _ _ len len (Nat.le_refl _) (by rw [f2.1, hlen]; exact Nat.le_refl _)⟩
     have hbig : ¬ (len * z.length > 2 ^ 24) := by omega
     have hu := O6 he
     by_cases h0 : len * z.length = 0
     ·have hm0 : madeCells zv.cells (len * z.length) = (Array.range (len * z.length)).map ((#[] : Array Value)[· % (#[] : Array Value).size]!) := by rw [h0]; simp [madeCells]
      rw [hm0] at f1
      simp only [Instr.buildSlice, Sem.run_bind, run_underlying hu, Result.andThen_ok, w9 hsz, if_neg hbig, if_pos h0, Sem.run_pure, f1, newRow, run_newObj_alloc, Ctx.new]
     ·simp only [Instr.buildSlice, Sem.run_bind, run_underlying hu, Result.andThen_ok, w9 hsz, if_neg hbig, if_neg h0, zeroValue, typeInfo, run_program, hi, hzv, Sem.run_pure]
      simp only [madeCells] at f1
      simp only [f1, newRow, Sem.run_bind, run_newObj_alloc, Result.andThen_ok, Sem.run_pure, Ctx.new]
    ·cases h
   ·cases h
  ·cases h
end
end Go.Proofs.YtpmjpogcaglphaaDoor.A
namespace Go.Proofs.YtpmjpogcaglphaaDoor.A
open Go
section
variable {P : Program} {c : Ctx} {N : Tag → Prop}
theorem al9 : ∀ {cs : List AV} {bs : List UInt8}, R9 cs = some bs → ∃ xs : List Int, cs = xs.map (AV.int .u8) ∧ bs = xs.map fun n => UInt8.ofNat n.toNat
 | [], bs, h => by
  simp only [R9] at h
  injection h with h; subst h
  exact ⟨[], rfl, rfl⟩
 | x :: cs, bs, h => by
  unfold R9 at h
  split at h
  ·rename_i h0; cases h0
  ·rename_i n cs' e
   injection e with e1 e2
   subst e1; subst e2
   split at h
   ·rename_i bs' hb
    injection h with h; subst h
    obtain ⟨xs, rfl, rfl⟩ := al9 hb
    exact ⟨n :: xs, rfl, rfl⟩
   ·cases h
  ·cases h
theorem ar7 (hI : Inv c) {x : AV} {xv : Value} {n : Nat} {cs : List AV} (hx : VR c x xv) (h : z7 c.H x = some (n, cs)) (hl : cs.length = n) : ∃ A cap, xv = .slice A n cap ∧ (0 < n → ∃ a, A = some a ∧ ∀ (j : Nat) (y : AV), cs[j]? = some y → ∃ u : Value, c.w.cell? (a.add j) = some u ∧ VR c y u) := by
 unfold z7 at h
 split at h
 ·injection h with h
  injection h with h1 h2
  subst h1
  obtain rfl := hx.nil_
  exact ⟨none, 0, rfl, fun h => by omega⟩
 ·injection h with h
  injection h with h1 h2
  subst h1; subst h2
  obtain ⟨A, cap, rfl, hn, hA0, hA, hc⟩ := hx.sl_
  refine ⟨A, cap, rfl, fun hp => ?_⟩
  obtain ⟨a, rfl⟩ := hA0 hp
  exact ⟨a, rfl, fun j y hy => by obtain ⟨u, a1, _, a3⟩ := hc a j y rfl hy; exact ⟨u, a1, .data _ _ a3⟩⟩
 ·rename_i k g off n'
  split at h
  ·rename_i r hr
   injection h with h
   injection h with h1 h2
   subst h1
   obtain ⟨_, _, A, cap, rfl, hn, hA, hh⟩ := hx.ref_
   refine ⟨A, cap, rfl, fun hp => ?_⟩
   obtain ⟨q, _⟩ := hh r hr
   refine ⟨_, q (.inr hp), fun j y hy => ?_⟩
   rw [← h2, List.getElem?_take] at hy
   split at hy
   ·obtain ⟨u, a1, _, a3⟩ := S5 hI (K1 hr).1 off j y hy
    exact ⟨u, a1, a3⟩
   ·cases hy
  ·cases h
 ·cases h
theorem aK9 {tg : Tag} (hI : Inv c) (ht : ¬ c.T tg) {s t : TypeId} {x v : AV} {xv : Value} {H H' : AH} (hH : c.H = H.o) (hN : N tg) (hx : VR c x xv) (h : f6 P tg s t x H = some (v, H')) :
  bx1 P c N (convert s t xv) v H'.o := by
 unfold f6 at h
 split at h
 ·rename_i d k k' n hs hd
  injection h with h
  injection h with h1 h2
  subst h1; subst h2
  obtain rfl := hx.int_
  exact Says.does hI ⟨_, by simp [convert, run_underlying hs, run_underlying hd, Conv.intToInt], VR.int ..⟩ hH
 ·rename_i d sx hs hd
  injection h with h
  injection h with h1 h2
  subst h1; subst h2
  obtain rfl := hx.str_
  exact Says.does hI ⟨.string ⟨sx.toArray⟩, by simp [convert, run_underlying hs, run_underlying hd], VR.str ..⟩ hH
 ·rename_i e sx hs hd
  split at h
  ·rename_i he
   injection h with h
   injection h with h1 h2
   subst h1; subst h2
   obtain rfl := hx.str_
   obtain ⟨iD, sD⟩ := ad8 (c := c) (w := c.w.drew) hI rfl rfl rfl rfl
   have hrun := run_bytes_of_string (P := P) c.w s t e ⟨sx.toArray⟩ hs hd he
   have hge := grownCap_ge c.w sx.length 0 e
   rw [I5] at hrun
   have hsz : (bytesRow ⟨sx.toArray⟩ (grownCap c.w sx.length 0 e)).size = grownCap c.w sx.length 0 e := by
    simp [bytesRow, I5]
    omega
   obtain ⟨i1, s1⟩ := ae4 (c := c.world c.w.drew) (t := tg) iD ht e 1 false ((bytesRow ⟨sx.toArray⟩ (grownCap c.w sx.length 0 e)).size, (bytesRow ⟨sx.toArray⟩ (grownCap c.w sx.length 0 e)).size + 1) (fun h => by cases h) (sx.map fun b => .int .u8 b.toNat) (bytesRow ⟨sx.toArray⟩ (grownCap c.w sx.length 0 e)) (.inr (by simp; omega)) (by simp; omega) (fun j y hy => by
    have hj : j < sx.length := by have := (List.getElem?_eq_some_iff.1 hy).1; simpa using this
    have hb := bytesRow_at ⟨sx.toArray⟩ (grownCap c.w sx.length 0 e) j (by simpa using hj)
    refine ⟨_, hb, rfl, ?_⟩
    have : y = .int .u8 (sx[j].toNat : Int) := by
     rw [List.getElem?_map, List.getElem?_eq_getElem hj] at hy
     simp at hy
     exact hy.symm
    rw [this]
    exact VR.int ..)
   refine ⟨_, _, hrun, i1, sD.trans s1, by simp [Ctx.new, Ctx.world, W8, hH], fun u hu => hu.imp id (fun e => by rw [e]; exact hN), ?_⟩
   exact ax9 (c.world c.w.drew) tg { elem := e, sz := 1, gen := tg, ro := false, plain := false, cs := sx.map fun b => .int .u8 b.toNat } _ _ sx.length _ hge (by simp; omega)
  ·cases h
 ·rename_i e hs hd _
  split at h
  ·rename_i he
   split at h
   ·rename_i n cs hcs
    split at h
    ·rename_i hl
     cases hb : R9 cs with
     | none => rw [hb] at h; cases h
     | some bs =>
      rw [hb] at h
      injection h with h
      injection h with h1 h2
      subst h1; subst h2
      rw [← hH] at hcs
      obtain ⟨xs, rfl, rfl⟩ := al9 hb
      obtain ⟨A, cap, rfl, hcell⟩ := ar7 hI hx hcs hl
      refine Says.does hI ⟨.string ⟨(xs.map fun n => UInt8.ofNat n.toNat).toArray⟩, ?_, VR.str ..⟩ hH
      have hxl : xs.length = n := by simpa using hl
      rcases Nat.eq_zero_or_pos n with h0 | h0
      ·subst h0
       have hx0 : xs = [] := List.eq_nil_of_length_eq_zero hxl
       subst hx0
       rw [run_convert_bytes_string c.w s t e _ 0 cap hs he hd]
       cases A with
       | none => simp [Conv.bytesToString]; rfl
       | some a => simp [Conv.bytesToString, loadCells, loadCellsFrom]; rfl
      ·obtain ⟨a, rfl, hc⟩ := hcell h0
       have hspot : a = ⟨a.block, a.off, none⟩ := by
        obtain ⟨u, hu, _⟩ := hc 0 _ (List.getElem?_eq_getElem (show 0 < (xs.map (AV.int .u8)).length by simpa [hxl] using h0))
        have : a.add 0 = a := by simp [Addr.add]
        rw [this] at hu
        unfold World.cell? at hu
        split at hu
        ·split at hu
         ·cases hu
         ·rename_i hsp
          obtain ⟨b, o, sp⟩ := a
          cases sp with
          | none => rfl
          | some q => exact absurd rfl hsp
        ·cases hu
       rw [hspot]
       have := run_convert_bytes_arg (P := P) c.w s e hs he a.block a.off n cap xs hxl (fun i hi => by
        have hi' : i < (xs.map (AV.int .u8)).length := by simpa [hxl] using hi
        obtain ⟨u, hu, hv⟩ := hc i _ (List.getElem?_eq_getElem hi')
        rw [hspot, H5] at hu
        rw [hu]
        have hgi : (xs.map (AV.int .u8))[i] = .int .u8 (xs.getD i 0) := by
         simp [List.getD_eq_getElem?_getD, List.getElem?_eq_getElem (show i < xs.length by omega)]
        rw [hgi] at hv
        rw [hv.int_]) t hd
       rw [this]
       simp [strOfNums]
    ·cases h
   ·cases h
  ·cases h
 ·cases h
theorem bO2 (hI : Inv c) {t : TypeId} {x v : AV} {ty : TypeId} {xv : Value} {rest : List TypeId} (hx : VR c x xv) (h : N6 P c.H t x = some v) : Says P c (Builtin.len_ (t :: rest).toArray ty #[xv]) v := by
 unfold N6 at h
 split at h
 ·rename_i s hu
  injection h with h; subst h
  obtain rfl := hx.str_
  exact ⟨_, by simp [Builtin.len_, run_underlying hu, goInt, I5], VR.int ..⟩
 ·rename_i n e hu
  injection h with h; subst h
  exact ⟨_, by simp [Builtin.len_, run_underlying hu, goInt], VR.int ..⟩
 ·rename_i e hu
  injection h with h; subst h
  obtain rfl := hx.nil_
  exact ⟨_, by simp [Builtin.len_, run_underlying hu, goInt], VR.int ..⟩
 ·rename_i e n cs hu
  injection h with h; subst h
  obtain ⟨A, cap, rfl, _⟩ := hx.sl_
  exact ⟨_, by simp [Builtin.len_, run_underlying hu, goInt], VR.int ..⟩
 ·rename_i e k g off n hu
  injection h with h; subst h
  obtain ⟨_, _, A, cap, rfl, _⟩ := hx.ref_
  exact ⟨_, by simp [Builtin.len_, run_underlying hu, goInt], VR.int ..⟩
 ·rename_i x _ m kt et hu
  cases hm : ax6 c.H x with
  | none => rw [hm] at h; cases h
  | some es =>
   rw [hm] at h
   injection h with h; subst h
   unfold ax6 at hm
   split at hm
   ·injection hm with hm; subst hm
    obtain rfl := hx.nilmp_
    exact ⟨_, by simp [Builtin.len_, run_underlying hu, goInt], VR.int ..⟩
   ·split at hm
    ·rename_i he
     injection hm with hm; subst hm
     obtain ⟨_, _, hmp⟩ := hx.mp_
     obtain rfl := hmp _ he
     obtain ⟨_, _, en, cl, hb, hl, _⟩ := hI.map _ _ he
     exact ⟨_, by simp [Builtin.len_, run_underlying hu, goInt, MapKept.run_getObj_map hb, Result.andThen, hl], VR.int ..⟩
    ·cases hm
   ·cases hm
 ·cases h
def ListRel (c : Ctx) : List AV → List Value → Prop
 | [], [] => True
 | x :: xs, v :: vs => VR c x v ∧ ListRel c xs vs
 | _, _ => False
theorem aj4 {a : n8} {ca : Act} (hA : AR c a ca) : ∀ {l : List Operand} {vs : List AV}, R8 a l = some vs → ListRel c vs (l.map ca.eval)
 | [], vs, h => by
  simp only [R8] at h
  injection h with h; subst h
  trivial
 | x :: l, vs, h => by
  simp only [R8] at h
  split at h
  ·rename_i v vs' hv hvs
   injection h with h; subst h
   exact ⟨o9 hA hv, aj4 hA hvs⟩
  ·cases h
theorem bO3 {ts : Array TypeId} {ty : TypeId} {xs : List AV} {vs : List Value} {v : AV} (hx : ListRel c xs vs) (h : cg0 xs = some v) : Says P c (Builtin.max_ ts ty vs.toArray) v := by
 unfold cg0 at h
 split at h
 ·rename_i k x k' y
  match vs, hx with
  | [a, b], hx =>
   obtain ⟨h1, h2, _⟩ := hx
   obtain rfl := h1.int_
   obtain rfl := h2.int_
   split at h
   ·rename_i e
    subst e
    injection h with h; subst h
    exact ⟨_, by simp [Builtin.max_, Builtin.max2], VR.int ..⟩
   ·cases h
 ·cases h
theorem bO4 {ts : Array TypeId} {ty : TypeId} {xs : List AV} {vs : List Value} {v : AV} (hx : ListRel c xs vs) (h : ca9 xs = some v) : Says P c (Builtin.min_ ts ty vs.toArray) v := by
 unfold ca9 at h
 split at h
 ·rename_i k x k' y
  match vs, hx with
  | [a, b], hx =>
   obtain ⟨h1, h2, _⟩ := hx
   obtain rfl := h1.int_
   obtain rfl := h2.int_
   split at h
   ·rename_i e
    subst e
    injection h with h; subst h
    exact ⟨_, by simp [Builtin.min_, Builtin.min2], VR.int ..⟩
   ·cases h
 ·cases h
end
end Go.Proofs.YtpmjpogcaglphaaDoor.A
namespace Go.Proofs.YtpmjpogcaglphaaDoor.A
open Go
def LR (R : AV → Value → Prop) (xs : List AV) (vs : List Value) : Prop := vs.length = xs.length ∧ ∀ (j : Nat) (x : AV) (u : Value), xs[j]? = some x → vs[j]? = some u → R x u
theorem LR.nil {R : AV → Value → Prop} : LR R [] [] := ⟨rfl, fun j x u h => by simp at h⟩
theorem LR.cons {R : AV → Value → Prop} {x : AV} {v : Value} {xs : List AV} {vs : List Value} (h : R x v) (t : LR R xs vs) : LR R (x :: xs) (v :: vs) := by
 refine ⟨by simp [t.1], fun j y u hy hu => ?_⟩
 cases j with
 | zero => simp at hy hu; subst hy; subst hu; exact h
 | succ j => simp at hy hu; exact t.2 j y u hy hu
theorem LR.append {R : AV → Value → Prop} {xs xs' : List AV} {vs vs' : List Value} (h : LR R xs vs) (t : LR R xs' vs') : LR R (xs ++ xs') (vs ++ vs') := by
 refine ⟨by simp [h.1, t.1], fun j y u hy hu => ?_⟩
 by_cases hj : j < xs.length
 ·rw [List.getElem?_append_left hj] at hy
  rw [List.getElem?_append_left (by rw [h.1]; exact hj)] at hu
  exact h.2 j y u hy hu
 ·rw [List.getElem?_append_right (by omega)] at hy
  rw [List.getElem?_append_right (by rw [h.1]; omega), h.1] at hu
  exact t.2 _ y u hy hu
theorem LR.imp {R R' : AV → Value → Prop} {f : AV → AV} {xs : List AV} {vs : List Value} (h : LR R xs vs) (i : ∀ x v, x ∈ xs → R x v → R' (f x) v) : LR R' (xs.map f) vs := by
 refine ⟨by simp [h.1], fun j y u hy hu => ?_⟩
 rw [List.getElem?_map] at hy
 cases hx : xs[j]? with
 | none => rw [hx] at hy; cases hy
 | some x =>
  rw [hx] at hy
  simp at hy
  subst hy
  exact i x u (List.mem_of_getElem? hx) (h.2 j x u hx hu)
theorem LR.weak {R R' : AV → Value → Prop} {xs : List AV} {vs : List Value} (h : LR R xs vs) (i : ∀ x v, x ∈ xs → R x v → R' x v) : LR R' xs vs := by
 have := h.imp (f := id) i
 simpa using this
theorem ListRel.lr {c : Ctx} : ∀ {xs : List AV} {vs : List Value}, ListRel c xs vs → LR (VR c) xs vs
 | [], [], _ => LR.nil
 | x :: xs, v :: vs, h => LR.cons h.1 (ListRel.lr h.2)
theorem LR.array {R : AV → Value → Prop} {xs : List AV} {us : Array Value} (hl : us.size = xs.length) (h : ∀ (j : Nat) (x : AV) (u : Value), xs[j]? = some x → us[j]? = some u → R x u) : LR R xs us.toList :=
 ⟨by simpa using hl, fun j x u hx hu => h j x u hx (by simpa using hu)⟩
theorem S7 : ∀ {xs : List AV} {j : Nat} {x : AV}, flat.flats xs = true → xs[j]? = some x → flat x = true
 | [], j, x, _, h => by simp at h
 | y :: ys, j, x, hf, h => by
  simp only [flat.flats, Bool.and_eq_true] at hf
  cases j with
  | zero => simp at h; subst h; exact hf.1
  | succ j => simp at h; exact S7 hf.2 h
theorem PR.flat {S : Nat → Prop} {w : World} {x : AV} {v : Value} (h : PR S w x v) (S' : Nat → Prop) (w' : World) (hf : A.flat x = true) : PR S' w' x v := by
 induction h with
 | und v => cases hf
 | bool b => exact .bool b
 | int k n => exact .int k n
 | str s => exact .str s
 | agg cs vs hl _ h1 ih => exact .agg cs vs hl (fun j x u hx hu => ih j x u hx hu (S7 (by simpa [A.flat] using hf) hx)) h1
 | tup cs vs hl _ ih => exact .tup cs vs hl (fun j x u hx hu => ih j x u hx hu (S7 (by simpa [A.flat] using hf) hx))
 | fn f fs cs us vs hl hl' _ _ ih ih' => cases hf
 | nil => cases hf
 | nilmp => cases hf
 | nilp => cases hf
 | sl n cs A cap u hn hA ha hc h1 _ ih => cases hf
 | fptr cs a u ha hc h1 _ ih => cases hf
theorem am0 (o : Tag → Option AObj) : ∀ (d : Nat) (x : AV), flat x = true → b9 o d x = []
 | 0, x, _ => rfl
 | d + 1, x, h => by
  cases x with
  | agg cs =>
   simp only [b9, List.flatMap_eq_nil_iff]
   intro y hy
   obtain ⟨j, hj⟩ := List.getElem?_of_mem hy
   exact am0 o d y (S7 (by simpa [flat] using h) hj)
  | tup cs =>
   simp only [b9, List.flatMap_eq_nil_iff]
   intro y hy
   obtain ⟨j, hj⟩ := List.getElem?_of_mem hy
   exact am0 o d y (S7 (by simpa [flat] using h) hj)
  | ref => cases h
  | ptr => cases h
  | fn => cases h
  | _ => rfl
theorem C0 {c : Ctx} {x : AV} {v : Value} (h : VR c x v) (S : Nat → Prop) (hS : ∀ b, c.S b → S b) : PR S c.w (bN3 x) v := by
 have key : ∀ {y : AV}, PR c.S c.w y v → PR S c.w y v := fun h => h.mono hS (fun _ _ => rfl)
 cases x with
 | bool b => cases h with | data _ _ h => exact key h
 | int => cases h with | data _ _ h => exact key h
 | str => cases h with | data _ _ h => exact key h
 | nil =>
  obtain rfl := h.nil_
  exact .sl 0 [] none 0 (fun _ => undef) (Nat.le_refl _) (fun h => by omega) (fun h => absurd rfl h) (fun a j x _ hx => by simp at hx) (fun j x hx => by simp at hx) (fun j x hx => by simp at hx)
 | sl => cases h with | data _ _ h => exact key h
 | fptr => cases h with | data _ _ h => exact key h
 | nilmp => cases h with | data _ _ h => exact key h
 | nilp => cases h with | data _ _ h => exact key h
 | _ => exact .und v
theorem V6 {c : Ctx} (hI : Inv c) (S : Nat → Prop) (hS : ∀ b, c.S b → S b) : ∀ (d : Nat) (x : AV) (v : Value), VR c x v → (∀ k r, k ∈ b9 c.H d x → c.H k = some (.row r) → S (c.φ k)) → PR S c.w (view c.H d x) v
 | 0, x, v, h, _ => C0 h S hS
 | d + 1, x, v, h, ht => by
  have IH := V6 hI S hS d
  cases x with
  | agg cs =>
   obtain ⟨vs, rfl, hl, hh, h1⟩ := h.agg_
   refine .agg _ vs (by simpa using hl) (fun j y u hy hu => ?_) h1
   rw [List.getElem?_map] at hy
   cases hx : cs[j]? with
   | none => rw [hx] at hy; cases hy
   | some x =>
    rw [hx] at hy
    simp at hy
    subst hy
    exact IH x u (hh j x u hx hu) (fun k r hk => ht k r (List.mem_flatMap.2 ⟨x, List.mem_of_getElem? hx, hk⟩))
  | tup cs =>
   obtain ⟨vs, rfl, hl, hh⟩ := h.tup_
   refine .tup _ vs (by simpa using hl) (fun j y u hy hu => ?_)
   rw [List.getElem?_map] at hy
   cases hx : cs[j]? with
   | none => rw [hx] at hy; cases hy
   | some x =>
    rw [hx] at hy
    simp at hy
    subst hy
    exact IH x u (hh j x u hx hu) (fun k r hk => ht k r (List.mem_flatMap.2 ⟨x, List.mem_of_getElem? hx, hk⟩))
  | fn f fs cs =>
   obtain ⟨us, vs, rfl, hl, hl', hh, hh'⟩ := h.fn_
   refine .fn f _ _ us vs (by simpa using hl) (by simpa using hl') (fun j y u hy hu => ?_) (fun j y u hy hu => ?_)
   ·rw [List.getElem?_map] at hy
    cases hx : fs[j]? with
    | none => rw [hx] at hy; cases hy
    | some x =>
     rw [hx] at hy
     simp at hy
     subst hy
     exact IH x u (hh j x u hx hu) (fun k r hk => ht k r (List.mem_append_left _ (List.mem_flatMap.2 ⟨x, List.mem_of_getElem? hx, hk⟩)))
   ·rw [List.getElem?_map] at hy
    cases hx : cs[j]? with
    | none => rw [hx] at hy; cases hy
    | some x =>
     rw [hx] at hy
     simp at hy
     subst hy
     exact IH x u (hh' j x u hx hu) (fun k r hk => ht k r (List.mem_append_right _ (List.mem_flatMap.2 ⟨x, List.mem_of_getElem? hx, hk⟩)))
  | ref k g off n =>
   obtain ⟨_, _, A, cap, rfl, hn, hA, hr⟩ := h.ref_
   simp only [view]
   split
   ·rename_i r hrow
    split
    ·rename_i hfit
     obtain ⟨hHk, _⟩ := K1 hrow
     obtain ⟨hA', _⟩ := hr r hrow
     have hcell := S5 hI hHk off
     simp only [b9, hrow] at ht
     have hpos : ∀ {j : Nat} {y : AV}, ((r.cs.drop off).take (n * r.sz))[j]? = some y → 0 < n := fun {j y} hy => by
      rcases Nat.eq_zero_or_pos n with h0 | h0
      ·subst h0; simp at hy
      ·exact h0
     have hdrop : ∀ {j : Nat} {y : AV}, ((r.cs.drop off).take (n * r.sz))[j]? = some y → (r.cs.drop off)[j]? = some y := fun {j y} hy => by
      have := (List.getElem?_eq_some_iff.1 hy).1
      rw [List.getElem?_take_of_lt (by simp at this; omega)] at hy
      exact hy
     have hvs : ∀ (j : Nat), ∃ u : Value, ∀ (y : AV), ((r.cs.drop off).take (n * r.sz))[j]? = some y → c.w.cell? ((⟨c.φ k, off, none⟩ : Addr).add j) = some u ∧ u.oneCell' = true ∧ VR c y u := fun j => by
      cases hy : ((r.cs.drop off).take (n * r.sz))[j]? with
      | none => exact ⟨undef, fun y h => by cases h⟩
      | some y =>
       obtain ⟨u, hu⟩ := hcell j y (hdrop hy)
       exact ⟨u, fun y' h => by injection h with h; subst h; exact hu⟩
     have hmap : ∀ {j : Nat} {x : AV}, (((r.cs.drop off).take (n * r.sz)).map (view c.H d))[j]? = some x → ∃ y, ((r.cs.drop off).take (n * r.sz))[j]? = some y ∧ x = view c.H d y := fun {j x} hx => by
      rw [List.getElem?_map] at hx
      cases hy : ((r.cs.drop off).take (n * r.sz))[j]? with
      | none => rw [hy] at hx; cases hx
      | some y => rw [hy] at hx; simp at hx; exact ⟨y, rfl, hx.symm⟩
     refine .sl n _ A cap (fun j => (hvs j).choose) hn (fun h0 => hA (.inr h0)) (fun hne => ?_) (fun a j x ha hx => ?_) (fun j x hx => ?_) (fun j x hx => ?_)
     ·have : 0 < n := by
       rcases Nat.eq_zero_or_pos n with h0 | h0
       ·subst h0; simp at hne
       ·exact h0
      exact ⟨_, hA' (.inr this), ht k r (List.mem_cons_self ..) hHk⟩
     ·obtain ⟨y, hy, rfl⟩ := hmap hx
      rw [hA' (.inr (hpos hy))] at ha
      injection ha with ha
      subst ha
      exact ((hvs j).choose_spec y hy).1
     ·obtain ⟨y, hy, rfl⟩ := hmap hx
      exact ((hvs j).choose_spec y hy).2.1
     ·obtain ⟨y, hy, rfl⟩ := hmap hx
      exact IH y _ ((hvs j).choose_spec y hy).2.2 (fun k' r' hk' => ht k' r' (List.mem_cons_of_mem _ (List.mem_flatMap.2 ⟨y, List.mem_of_getElem? hy, hk'⟩)))
    ·exact .und _
   ·exact .und _
  | und => exact C0 h S hS
  | bool => exact C0 h S hS
  | int => exact C0 h S hS
  | str => exact C0 h S hS
  | nil => exact C0 h S hS
  | sl => exact C0 h S hS
  | fptr => exact C0 h S hS
  | ptr k g off =>
   obtain ⟨_, _, a, rfl, hr⟩ := h.ptr_
   simp only [view]
   split
   ·rename_i r hrow
    obtain ⟨hHk, _⟩ := K1 hrow
    obtain rfl := hr r hrow
    have hcell := S5 hI hHk off
    simp only [b9, hrow] at ht
    have hvs : ∀ (j : Nat), ∃ u : Value, ∀ (y : AV), (r.cs.drop off)[j]? = some y → c.w.cell? ((⟨c.φ k, off, none⟩ : Addr).add j) = some u ∧ u.oneCell' = true ∧ VR c y u := fun j => by
     cases hy : (r.cs.drop off)[j]? with
     | none => exact ⟨undef, fun y h => by cases h⟩
     | some y =>
      obtain ⟨u, hu⟩ := hcell j y hy
      exact ⟨u, fun y' h => by injection h with h; subst h; exact hu⟩
    have hmap : ∀ {j : Nat} {x : AV}, ((r.cs.drop off).map (view c.H d))[j]? = some x → ∃ y, (r.cs.drop off)[j]? = some y ∧ x = view c.H d y := fun {j x} hx => by
     rw [List.getElem?_map] at hx
     cases hy : (r.cs.drop off)[j]? with
     | none => rw [hy] at hx; cases hx
     | some y => rw [hy] at hx; simp at hx; exact ⟨y, rfl, hx.symm⟩
    refine .fptr _ _ (fun j => (hvs j).choose) (fun _ => ht k r (List.mem_cons_self ..) hHk) (fun j x hx => ?_) (fun j x hx => ?_) (fun j x hx => ?_)
    ·obtain ⟨y, hy, rfl⟩ := hmap hx
     exact ((hvs j).choose_spec y hy).1
    ·obtain ⟨y, hy, rfl⟩ := hmap hx
     exact ((hvs j).choose_spec y hy).2.1
    ·obtain ⟨y, hy, rfl⟩ := hmap hx
     exact IH y _ ((hvs j).choose_spec y hy).2.2 (fun k' r' hk' => ht k' r' (List.mem_cons_of_mem _ (List.mem_flatMap.2 ⟨y, List.mem_of_getElem? hy, hk'⟩)))
   ·exact .und _
  | mp => exact C0 h S hS
  | nilmp => exact C0 h S hS
  | nilp => exact C0 h S hS
def N9 (P : Program) (g : FuncId) : Prop := ∃ fn, P.funcs[g]? = some fn ∧ (fn.name == "runtime.NumGoroutine") = false ∧ fn.body.isNone = false
def cS9 (S : Nat → Prop) (w : World) (r : AV) : Ending → World → Prop := fun e w' => ∃ v S', e = .returned v ∧ RowKit.Below w.heap.size w w' ∧ PR S' w' r v ∧ (∀ b, S b → S' b) ∧ ∀ b, S' b → (S b ∨ w.heap.size ≤ b) ∧ b < w'.heap.size
def m7 (P : Program) (cp : F9) : Prop := ∀ g args r, cp g args = some r → N9 P g ∧ ∀ (S : Nat → Prop) (w : World) (cargs : List Value), LR (PR S w) args cargs → (∀ b, S b → b < w.heap.size) → Gl S w → Calls P g cargs.toArray w (cS9 S w r)
def bK3 (c : Ctx) (nx nx' : Nat) (Ho : Tag → Option AObj) (v : AV) : Ending → World → Prop := fun e w' => ∃ u c', e = .returned u ∧ c'.w = w' ∧ Inv c' ∧ Step c c' ∧ c'.H = Ho ∧ VR c' v u ∧ ∀ t, c'.T t → c.T t ∨ (nx ≤ t.1 ∧ t.1 < nx')
def u9 (P : Program) (cr : q8) : Prop := ∀ g args H v H', cr g args H = some (v, H') → N9 P g ∧ H.nx ≤ H'.nx ∧ ∀ (c : Ctx) (cargs : List Value), Inv c → c.H = H.o → (∀ t, c.T t → t.1 < H.nx) → LR (VR c) args cargs → Calls P g cargs.toArray c.w (bK3 c H.nx H'.nx H'.o v)
def Ctx.wide (c : Ctx) (S : Nat → Prop) (w : World) : Ctx := { c with S := S, w := w }
theorem at5 {c : Ctx} (hI : Inv c) {w : World} (hb : RowKit.Below c.w.heap.size c.w w) (S : Nat → Prop) (hS : ∀ b, c.S b → S b) (hS' : ∀ b, S b → (c.S b ∨ c.w.heap.size ≤ b) ∧ b < w.heap.size) : Inv (c.wide S w) ∧ Step c (c.wide S w) := by
 have m : Mono c (c.wide S w) := by
  refine ⟨hS, fun b hs => hb.block b (hI.imm b hs), fun _ h => h, fun k r h => .inl ⟨r, h, rfl, rfl, rfl, fun cells e m hc => ⟨cells, e, m, ?_, Nat.le_refl _⟩⟩, fun _ es h => .inl ⟨es, h, rfl⟩⟩
  rw [← hc]
  exact (hb.block _ (hI.lt h)).symm
 refine ⟨⟨fun b h => (hS' b h).2, fun k r hr => ?_, fun k es hes => ?_, hI.inj, hI.gl.mono m.S m.blk⟩, ⟨hb.os, hb.tape, hb.output, hb.size, fun b h _ => hb.block b h, m, fun b h => ?_, fun k h => .inr ⟨k, h, rfl⟩⟩⟩
 ·obtain ⟨h1, h2, h3, h4, cells, mk, hc, hp, hm, hl, hx⟩ := hI.row k r hr
  refine ⟨h1, h2, fun h => hS _ (h3 h), fun h hs => ?_, cells, mk, ?_, hp, hm, hl, fun j x hj => ?_⟩
  ·rcases (hS' _ hs).1 with h' | h'
   ·exact h4 h h'
   ·have := hI.lt hr
    exact absurd h' (by simp only [Ctx.wide]; omega)
  ·rw [← hc]
   exact hb.block _ (hI.lt hr)
  ·obtain ⟨u, hu1, hu2, hu3⟩ := hx j x hj
   exact ⟨u, hu1, hu2, hu3.mono m⟩
 ·obtain ⟨h1, h2, en, cl, hc, hl, hx⟩ := hI.map k es hes
  refine ⟨h1, fun hs => ?_, en, cl, ?_, hl, fun j x e hj he => ?_⟩
  ·rcases (hS' _ hs).1 with h' | h'
   ·exact h2 h'
   ·have := hI.lt hes
    exact absurd h' (by simp only [Ctx.wide]; omega)
  ·rw [← hc]
   exact hb.block _ (hI.lt hes)
  ·obtain ⟨a, b⟩ := hx j x e hj he
   exact ⟨a.mono m, b.mono m⟩
 ·rcases (hS' b h).1 with h' | h'
  ·exact .inl h'
  ·exact .inr (.inl h')
theorem aD5 {P : Program} {c : Ctx} (hI : Inv c) {cp : F9} (hP : m7 P cp) {g : FuncId} {as_ : List AV} {cargs : List Value} {sc : Bool} {r v : AV} {H H' : AH} (hH : c.H = H.o) (hr : cp g (as_.map (view H.o n6)) = some r)
  (hf : B2 sc as_ r H = some (v, H')) (ha : LR (VR c) as_ cargs) : N9 P g ∧ H'.nx = H.nx ∧ Calls P g cargs.toArray c.w (bK3 c H.nx H'.nx H'.o v) := by
 obtain ⟨hE, hcall⟩ := hP g _ r hr
 refine ⟨hE, ?_, ?_⟩
 ·unfold B2 at hf
  split at hf
  ·split at hf
   ·injection hf with hf; injection hf with h1 h2; rw [← h2]
   ·cases hf
  ·injection hf with hf; injection hf with h1 h2; rw [← h2]
 let ts := as_.flatMap (b9 H.o n6)
 obtain ⟨i1, s1⟩ := Z9 hI ts
 have hargs : LR (PR (c.shut ts).S c.w) (as_.map (view H.o n6)) cargs := ha.imp fun x v' hx hv => by
  rw [← hH]
  refine V6 hI _ s1.mono.S n6 x v' hv (fun k rr hk hrow => ?_)
  exact .inr ⟨k, rr, List.mem_flatMap.2 ⟨x, hx, by rw [← hH]; exact hk⟩, hrow, rfl⟩
 refine (hcall (c.shut ts).S c.w cargs hargs i1.imm i1.gl).mono ?_
 rintro e w' ⟨u, S', rfl, hb, hpr, hS1, hS2⟩
 unfold B2 at hf
 split at hf
 ·split at hf
  ·rename_i hfl
   injection hf with hf
   injection hf with h1 h2
   subst h1; subst h2
   obtain ⟨i2, s2⟩ := at5 hI hb c.S (fun _ h => h) (fun b h => ⟨.inl h, Nat.lt_of_lt_of_le (hI.imm b h) hb.size⟩)
   exact ⟨u, c.wide c.S w', rfl, rfl, i2, s2, hH, .data _ _ (hpr.flat _ _ hfl), fun t ht => .inl ht⟩
  ·cases hf
 ·injection hf with hf
  injection hf with h1 h2
  subst h1; subst h2
  obtain ⟨i2, s2⟩ := at5 (c := c.shut ts) i1 hb S' hS1 hS2
  refine ⟨u, (c.shut ts).wide S' w', rfl, rfl, i2, s1.trans s2, ?_, .data _ _ hpr, fun t ht => .inl ht⟩
  show C9 ts c.H = _
  rw [hH]
theorem by4 {P : Program} {c : Ctx} (hI : Inv c) {cr : q8} (hR : u9 P cr) {g : FuncId} {as_ : List AV} {cargs : List Value} {frz : Bool} {r : AV} {H H1 : AH} (hH : c.H = H.o) (hnx : ∀ t, c.T t → t.1 < H.nx) (hr : cr g as_ H = some (r, H1))
  (ha : LR (VR c) as_ cargs) : N9 P g ∧ H.nx ≤ (p8 frz r H1).2.nx ∧ Calls P g cargs.toArray c.w (bK3 c H.nx (p8 frz r H1).2.nx (p8 frz r H1).2.o (p8 frz r H1).1) := by
 obtain ⟨hE, hle, hcall⟩ := hR g as_ H r H1 hr
 have hnx1 : (p8 frz r H1).2.nx = H1.nx := by
  unfold p8
  split
  ·dsimp only
   split <;> rfl
  ·rfl
 rw [hnx1]
 refine ⟨hE, hle, (hcall c cargs hI hH hnx ha).mono ?_⟩
 rintro e w' ⟨u, c', rfl, rfl, i', s', hH', hv, hT⟩
 unfold p8
 split
 ·dsimp only
  split
  ·rename_i hfl
   refine ⟨u, c', rfl, rfl, i', s', hH', .data _ _ ?_, hT⟩
   rw [← hH']
   exact V6 i' _ (fun _ h => h) n6 r u hv (fun k rr hk => by rw [am0 _ _ _ hfl] at hk; cases hk)
  ·obtain ⟨i2, s2⟩ := Z9 i' (b9 H1.o n6 r)
   refine ⟨u, c'.shut (b9 H1.o n6 r), rfl, rfl, i2, s'.trans s2, by show C9 _ c'.H = _; rw [hH'], .data _ _ ?_, hT⟩
   have key := V6 i' (c'.shut (b9 H1.o n6 r)).S s2.mono.S n6 r u hv (fun k rr hk hrow => .inr ⟨k, rr, by rw [← hH']; exact hk, hrow, rfl⟩)
   rw [hH'] at key
   exact key
 ·exact ⟨u, c', rfl, rfl, i', s', hH', hv, hT⟩
end Go.Proofs.YtpmjpogcaglphaaDoor.A
