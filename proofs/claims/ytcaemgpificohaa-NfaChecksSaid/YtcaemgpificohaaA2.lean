/- A, part 2: operations, regions, code, calls: a program's own code run on abstract values. No theorem about the machine stands here. -/
import Derived.Test.YtcaemgpificohaaA1
set_option linter.unusedVariables false
set_option linter.unusedSimpArgs false
set_option linter.unnecessarySimpa false
namespace Go.Proofs.Ytcaemgpificohaa.A
open Go

inductive Mode where
  /-- called on what its arguments hold; hands back data; scalar: nothing in its result leads to memory -/
  | pure (scalar : Bool)
  /-- called on the caller's heap; frz: its result is handed back as data -/
  | raw (frz : Bool)
  /-- as pure, known by a contract of another make -/
  | ext (scalar : Bool)

structure Env where
  P : Program
  mode : FuncId → Mode
  ext : FuncId → List AV → Option AV

def opd (a : AAct) : Operand → Option AV
  | .tmp t => some (a t)
  | .const v => ofConst v
  | .func f => some (.fn (.func f) [] [])
  | .global _ => none
def opds (a : AAct) : List Operand → Option (List AV)
  | [] => some []
  | x :: xs => match opd a x, opds a xs with
    | some v, some vs => some (v :: vs)
    | _, _ => none
def opdI (a : AAct) (x : Operand) : Option Int := (opd a x).bind asI
/-- An optional bound: none outside, or a number. -/
def opdB (a : AAct) : Option Operand → Option (Option Int)
  | none => some none
  | some x => (opdI a x).map some

def mkRow (H : AH) (t : Tag) (elem sz : Nat) (plain : Bool) (cs : List AV) : AH := { H with o := upd H.o t (.row { elem, sz, gen := t, ro := false, plain, cs }) }
def putRow (H : AH) (t : Tag) (r : Row) : AH := { H with o := upd H.o t (.row r) }

/-- The parts of a literal, laid in. -/
def fillA (place : Nat → Option (Nat × Nat)) (cells : List AV) : List (Nat × AV) → Option (List AV)
  | [] => some cells
  | (i, v) :: rest =>
    match place i with
    | none => none
    | some (off, size) =>
      if v.cells.length = size ∧ off + size ≤ cells.length ∧ v.cells.all cellOk = true then fillA place (splice cells off v.cells) rest else none
def partsOf (a : AAct) : List (Nat × Operand) → Option (List (Nat × AV))
  | [] => some []
  | (i, x) :: ps => match opd a x, partsOf a ps with
    | some v, some vs => some ((i, v) :: vs)
    | _, _ => none
def fieldPlaces (P : Program) : List Field → Option (List (Nat × Nat))
  | [] => some []
  | f :: fs => match tSize P f.type, fieldPlaces P fs with
    | some s, some r => some ((f.offset, s) :: r)
    | _, _ => none
def aBuild (P : Program) (t : TypeId) (parts : List (Nat × AV)) : Option AV :=
  match tZero P t, P.underlying t with
  | some z, some (.struct fs) => match fieldPlaces P fs.toList with
    | some ps => (fillA (fun i => ps[i]?) z parts).map .agg
    | none => none
  | some z, some (.array _ e) => match tSize P e with
    | some s => (fillA (fun i => some (i * s, s)) z parts).map .agg
    | none => none
  | _, _ => none

def aAppend (P : Program) (tg : Tag) (t xt : TypeId) (s x : AV) (H : AH) : Option (AV × AH) :=
  match tElem P t with
  | none => none
  | some e =>
    match tSize P e, tBytes P e, tZero P e, srcOf H.o x with
    | some sz, some by_, some z, some (m, new) =>
      if z.length ≠ sz ∨ (isStr (P.underlying xt) = false ∧ (tElem P xt).isSome = false) ∨ new.length ≠ m * sz ∨ sz = 0 ∨ by_ = 0 ∨ new.all cellOk = false then none else
      match s with
      | .nil =>
        if m = 0 then some (.nil, H)
        else if m * by_ ≤ 140737488355328 then some (.ref tg tg 0 m, mkRow H tg e sz true new) else none
      | .ref k g 0 n =>
        match aRow H.o k g with
        | some r =>
          if r.elem = e ∧ r.sz = sz ∧ r.ro = false ∧ r.plain = true ∧ n * sz ≤ r.cs.length ∧ (n + m) * by_ ≤ 140737488355328 then
            some (.ref k tg 0 (n + m), putRow H k { r with gen := tg, cs := r.cs.take (n * sz) ++ new })
          else none
        | none => none
      | _ => none
    | _, _, _, _ => none

def aStore (P : Program) (t : TypeId) (p x : AV) (H : AH) : Option AH :=
  match p, tSize P t with
  | .ptr k g off, some n =>
    match aRow H.o k g with
    | some r =>
      if x.cells.length = n ∧ x.cells.all cellOk = true ∧ r.ro = false ∧ off + n ≤ r.cs.length then
        some (putRow H k { r with cs := splice r.cs off x.cells })
      else none
    | none => none
  | _, _ => none
def aLoad (P : Program) (t : TypeId) (p : AV) (H : AH) : Option AV :=
  match p with
  | .ptr k g off => match aRow H.o k g with
    | some r => takeT P t (r.cs.drop off)
    | none => none
  | .fptr cs => takeT P t cs
  | _ => none

def aCopy (P : Program) (t : TypeId) (d x : AV) (H : AH) : Option (AV × AH) :=
  match (tElem P t).bind (tSize P), srcOf H.o x with
  | some sz, some (m, new) =>
    match d with
    | .ref k g off n =>
      match aRow H.o k g with
      | some r =>
        let c := Nat.min m n
        if (off = 0 ∨ 0 < n) ∧ r.sz = sz ∧ r.ro = false ∧ off + n * sz ≤ r.cs.length ∧ new.length = m * sz ∧ new.all cellOk = true then
          some (.int .i64 c, putRow H k { r with cs := splice r.cs off (new.take (c * sz)) })
        else none
      | none => none
    | .nil => if new.length = m * sz then some (.int .i64 0, H) else none
    | _ => none
  | _, _ => none

def aMakeSlice (P : Program) (tg : Tag) (t : TypeId) (l c : Int) (H : AH) : Option (AV × AH) :=
  match tElem P t with
  | none => none
  | some e =>
    match tSize P e, tBytes P e, tZero P e with
    | some sz, some by_, some z =>
      if 0 ≤ l ∧ l ≤ c ∧ c * by_ ≤ 140737488355328 ∧ c ≤ 140737488355328 ∧ z.length = sz ∧ 0 < sz then
        some (.ref tg tg 0 l.toNat, mkRow H tg e sz true (rep z l.toNat))
      else none
    | _, _, _ => none

def aBuildSlice (P : Program) (tg : Tag) (t : TypeId) (len : Nat) (parts : List (Nat × AV)) (H : AH) : Option (AV × AH) :=
  match tElem P t with
  | none => none
  | some e =>
    match tSize P e, tZero P e with
    | some sz, some z =>
      if len * sz ≤ 16777216 ∧ z.length = sz ∧ 0 < sz then
        match fillA (fun i => some (i * sz, sz)) (rep z len) parts with
        | some cs => some (.ref tg tg 0 len, mkRow H tg e sz true cs)
        | none => none
      else none
    | _, _ => none

def aBytes : List AV → Option (List UInt8)
  | [] => some []
  | .int .u8 n :: cs => match aBytes cs with
    | some bs => some (UInt8.ofNat n.toNat :: bs)
    | none => none
  | _ => none
def aConvert (P : Program) (tg : Tag) (src dst : TypeId) (x : AV) (H : AH) : Option (AV × AH) :=
  match P.underlying src, P.underlying dst, x with
  | some _, some (.int k), .int _ n => some (.int k (k.wrap n), H)
  | some _, some .string, .str s => some (.str s, H)
  | some .string, some (.slice e), .str s =>
    match P.underlying e with
    | some (.int .u8) => some (.ref tg tg 0 s.length, mkRow H tg e 1 false (s.map fun b => .int .u8 b.toNat))
    | _ => none
  | some (.slice e), some .string, x =>
    match P.underlying e with
    | some (.int .u8) => match sliceCells H.o x with
      | some (n, cs) => if cs.length = n then (aBytes cs).map fun bs => (.str bs, H) else none
      | none => none
    | _ => none
  | _, _, _ => none

/-! ### maps -/
/-- Whole numbers, strings, arrays of whole numbers: keys that are held against each other by their cells. -/
def keyOk (P : Program) (kt : TypeId) (k : AV) : Bool :=
  match P.underlying kt, k with
  | some (.int _), .int _ _ => true
  | some .string, .str _ => true
  | some (.array n e), .agg cs => isIntT (P.underlying e) && tSize P e == some 1 && (leafs P 20 kt).isSome && cs.length == n
  | _, _ => false
def eqKey (P : Program) (kt : TypeId) (x y : AV) : Option Bool :=
  match x, y with
  | .agg a, .agg b => (leafs P 20 kt).bind fun l => eqLeafs l a b
  | .int k a, .int k' b => if k = k' then some (a == b) else none
  | .str a, .str b => some (a == b)
  | _, _ => none
def findA (P : Program) (kt : TypeId) (k : AV) : List (AV × AV) → Option (Option AV)
  | [] => some none
  | (q, v) :: es => match eqKey P kt k q, findA P kt k es with
    | some true, some _ => some (some v)
    | some false, some r => some r
    | _, _ => none
def putA (P : Program) (kt : TypeId) (k v : AV) : List (AV × AV) → List (AV × AV)
  | [] => [(k, v)]
  | (q, u) :: es => if eqKey P kt k q = some true then (k, v) :: es else (q, u) :: putA P kt k v es
def mapAt (o : Tag → Option AObj) (m : AV) : Option (List (AV × AV)) :=
  match m with
  | .nilmp => some []
  | .mp k => match o k with
    | some (.map es) => some es
    | _ => none
  | _ => none
def isUnd : AV → Bool
  | .und => true
  | _ => false
def oneOf (cs : List AV) (isAgg : Bool) : Option AV := if isAgg then some (.agg cs) else match cs with | [x] => some x | _ => none
def aLookup (P : Program) (t : TypeId) (m k : AV) (commaOk : Bool) (H : AH) : Option AV :=
  match P.underlying t with
  | some (.map kt et) =>
    if keyOk P kt k then
      match mapAt H.o m, tZero P et, tAgg P et with
      | some es, some z, some ag => match findA P kt k es, oneOf z ag with
        | some (some v), some _ => some (if commaOk then .tup [v, .bool true] else v)
        | some none, some zv => some (if commaOk then .tup [zv, .bool false] else zv)
        | _, _ => none
      | _, _, _ => none
    else none
  | _ => none
def aMapUpdate (P : Program) (t : TypeId) (m k v : AV) (H : AH) : Option AH :=
  match P.underlying t, m with
  | some (.map kt _), .mp tg =>
    if keyOk P kt k then
      match H.o tg with
      | some (.map es) => match findA P kt k es with
        | some _ => if isUnd v then none else some { H with o := upd H.o tg (.map (putA P kt k v es)) }
        | none => none
      | _ => none
    else none
  | _, _ => none

def aLen (P : Program) (o : Tag → Option AObj) (t : TypeId) (x : AV) : Option AV :=
  match P.underlying t, x with
  | some .string, .str s => some (.int .i64 s.length)
  | some (.array n _), _ => some (.int .i64 n)
  | some (.slice _), .nil => some (.int .i64 0)
  | some (.slice _), .sl n _ => some (.int .i64 n)
  | some (.slice _), .ref _ _ _ n => some (.int .i64 n)
--MAP  | some (.map _ _), m => (mapAt o m).map fun es => .int .i64 es.length
  | _, _ => none
def aMax : List AV → Option AV
  | [.int k x, .int k' y] => if k = k' then some (.int k (if y > x then y else x)) else none
  | _ => none
def aMin : List AV → Option AV
  | [.int k x, .int k' y] => if k = k' then some (.int k (if y < x then y else x)) else none
  | _ => none

/-! ### one operation -/
abbrev CallP := FuncId → List AV → Option AV
abbrev CallR := FuncId → List AV → AH → Option (AV × AH)

def freezeP (scalar : Bool) (args : List AV) (r : AV) (H : AH) : Option (AV × AH) :=
  match scalar with
  | true => if flat r then some (r, H) else none
  | false => some (r, { H with o := sealed (args.flatMap (viewTags H.o vDepth)) H.o })
def freezeR (frz : Bool) (v : AV) (H : AH) : AV × AH :=
  if frz then (view H.o vDepth v, if flat v then H else { H with o := sealed (viewTags H.o vDepth v) H.o }) else (v, H)
def aCall (E : Env) (callP : CallP) (callR : CallR) (f : AV) (args : List AV) (H : AH) : Option (AV × AH) :=
  match f with
  | .fn (.func g) first captured =>
    let as_ := first ++ args ++ captured
    match E.mode g with
    | .pure sc => (callP g (as_.map (view H.o vDepth))).bind fun r => freezeP sc as_ r H
    | .ext sc => (E.ext g (as_.map (view H.o vDepth))).bind fun r => freezeP sc as_ r H
    | .raw frz => (callR g as_ H).map fun p => freezeR frz p.1 p.2
  | _ => none

def needD (d : Option Nat) (f : Nat → Option (AV × AH)) : Option (AV × AH) := match d with | some t => f t | none => none

def evalOp (E : Env) (callP : CallP) (callR : CallR) (st : Nat) (o : Oper) (a : AAct) (H : AH) : Option (AV × AH) :=
  match o.op with
  | .move x => (opd a x).map (·, H)
  | .assign x => (opd a x).map (·, H)
  | .pick c x y => match opd a c with
    | some (.bool true) => (opd a x).map (·, H)
    | some (.bool false) => (opd a y).map (·, H)
    | _ => none
  | .alloc e => match o.dst, tZero E.P e with
    | some d, some z => some (.ptr (st, d) (st, d) 0, mkRow H (st, d) e 1 true z)
    | _, _ => none
  | .box e x => match o.dst, opd a x with
    | some d, some v => if v.cells.all cellOk then some (.ptr (st, d) (st, d) 0, mkRow H (st, d) e 1 true v.cells) else none
    | _, _ => none
  | .build t parts => (partsOf a parts.toList).bind fun ps => (aBuild E.P t ps).map (·, H)
  | .buildSlice t len parts => needD o.dst fun d => (partsOf a parts.toList).bind fun ps => aBuildSlice E.P (st, d) t len ps H
  | .load t x => (opd a x).bind fun p => (aLoad E.P t p H).map (·, H)
  | .store t p x => (opd a p).bind fun pv => (opd a x).bind fun v => (aStore E.P t pv v H).map (noV, ·)
  | .nilCheck x => match opd a x with
    | some (.ptr k g off) => some (.ptr k g off, H)
    | some (.fptr cs) => some (.fptr cs, H)
    | some (.fn (.func f) first captured) => some (.fn (.func f) first captured, H)
    | _ => none
  | .binOp op t x y _ => (opd a x).bind fun u => (opd a y).bind fun v => (aBin E.P op t u v).map (·, H)
  | .unOp op _ x => (opd a x).bind fun u => (aUn op u).map (·, H)
  | .convert s t x => needD o.dst fun d => (opd a x).bind fun u => aConvert E.P (st, d) s t u H
  | .makeFunc fn first captured => match opds a first.toList, opds a captured.toList with
    | some f, some c => some (.fn fn f c, H)
    | _, _ => none
--MAP  | .makeMap _ none => match o.dst with
--MAP    | some d => some (.mp (st, d), { H with o := upd H.o (st, d) (.map []) })
--MAP    | none => none
  | .makeSlice t l c => needD o.dst fun d => (opdI a l).bind fun lv => (opdI a c).bind fun cv => aMakeSlice E.P (st, d) t lv cv H
  | .slice t x lo hi none => (opd a x).bind fun v => (opdB a lo).bind fun l => (opdB a hi).bind fun h => (aSlice E.P t v l h).map (·, H)
  | .fieldAddr t x f => match opd a x, tField E.P t f with
    | some (.ptr k g off), some (o', ft) => if (tSize E.P ft).getD 0 = 0 then none else some (.ptr k g (off + o'), H)
    | some (.fptr cs), some (o', ft) => if (tSize E.P ft).getD 0 = 0 then none else some (.fptr (cs.drop o'), H)
    | _, _ => none
  | .field t x f => match opd a x, tField E.P t f with
    | some (.agg cs), some (o', ft) => (takeT E.P ft (cs.drop o')).map (·, H)
    | _, _ => none
  | .indexAddr t x i => (opd a x).bind fun v => (opdI a i).bind fun j => (aIndexAddr E.P t v j).map (·, H)
  | .index t x i => (opd a x).bind fun v => (opdI a i).bind fun j => (aIndex E.P t v j).map (·, H)
--MAP  | .lookup t m k ok => (opd a m).bind fun mv => (opd a k).bind fun kv => (aLookup E.P t mv kv ok H).map (·, H)
--MAP  | .mapUpdate t m k v => (opd a m).bind fun mv => (opd a k).bind fun kv => (opd a v).bind fun vv => (aMapUpdate E.P t mv kv vv H).map (noV, ·)
--MAP  | .insert t m k v => (opd a m).bind fun mv => (opd a k).bind fun kv => (opd a v).bind fun vv => (aMapUpdate E.P t mv kv vv H).map (noV, ·)
  | .extract t i => match opd a t with
    | some (.tup vs) => (vs[i]?).map (·, H)
    | _ => none
  | .call c =>
    (opds a c.args.toList).bind fun args =>
    match c.callee with
    | .value f => (opd a f).bind fun fv => aCall E callP callR fv args H
    | .builtin .len => match args with
      | [x] => (if 0 < c.argTypes.size then aLen E.P H.o (c.argTypes.getD 0 0) x else none).map (·, H)
      | _ => none
    | .builtin .append => match args with
      | [s, x] => if c.argTypes.size = 2 then needD o.dst fun d => aAppend E.P (st, d) (c.argTypes.getD 0 0) (c.argTypes.getD 1 0) s x H else none
      | _ => none
    | .builtin .copy => match args with
      | [s, x] => if 0 < c.argTypes.size then aCopy E.P (c.argTypes.getD 0 0) s x H else none
      | _ => none
    | .builtin .max => (aMax args).map (·, H)
    | .builtin .min => (aMin args).map (·, H)
    | _ => none
  | _ => none

/-! ### a region -/
def yieldedA (ops : Array Oper) (a : AAct) (j : Nat) : Option (Option Bool) :=
  match (ops[j]?).bind (·.dst) with
  | none => some none
  | some d => match a d with
    | .bool b => some (some b)
    | .und => none
    | .mp _ => none
    | _ => some none
/-- Is it to be done? none: that can't be told. -/
def wantedA (ops : Array Oper) (a : AAct) (o : Oper) : Option Bool :=
  match o.guard with
  | none => some true
  | some (j, want) => (yieldedA ops a j).map fun y => y == some want
def step1 (E : Env) (callP : CallP) (callR : CallR) (st : Nat) (ops : Array Oper) (o : Oper) (a : AAct) (H : AH) : Option (AAct × AH) :=
  match wantedA ops a o with
  | some true => (evalOp E callP callR st o a H).map fun p => (putO a o.dst p.1, p.2)
  | some false => some (putO a o.dst noV, H)
  | none => none
def steps (E : Env) (callP : CallP) (callR : CallR) (st : Nat) (ops : Array Oper) : List Oper → AAct → AH → Option (AAct × AH)
  | [], a, H => some (a, H)
  | o :: l, a, H => match step1 E callP callR st ops o a H with
    | some (a', H') => steps E callP callR st ops l a' H'
    | none => none

end Go.Proofs.Ytcaemgpificohaa.A
