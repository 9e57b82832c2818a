/- A, part 3: regions that draw their order (a check that no order matters), code, calls. No theorem about the machine stands here. -/
import Derived.Test.YtcaemgpificohaaA2
import Derived.Scope
set_option linter.unusedVariables false
set_option linter.unusedSimpArgs false
set_option linter.unnecessarySimpa false
namespace Go.Proofs.Ytcaemgpificohaa.A
open Go

/-! ### what an operation touches -/
structure FP where
  r : List Tag
  w : List Tag
  all : Bool
def FP.none_ : FP := ⟨[], [], false⟩
def tagOf : AV → List Tag
  | .ref k _ _ _ => [k]
  | .ptr k _ _ => [k]
  | .mp k => [k]
  | _ => []
def tagO (v : Option AV) : List Tag := match v with | some x => tagOf x | none => []
def tagsV (o : Tag → Option AObj) (v : Option AV) : List Tag := match v with | some x => viewTags o vDepth x | none => []
def foot (E : Env) (st : Nat) (ops : Array Oper) (o : Oper) (a : AAct) (H : AH) : FP :=
  if wantedA ops a o = some true then
    let own : List Tag := match o.dst with | some d => [(st, d)] | none => []
    match o.op with
    | .load _ x => ⟨tagO (opd a x), [], false⟩
    | .store _ p _ => ⟨[], tagO (opd a p), false⟩
    | .alloc _ => ⟨[], own, false⟩
    | .box _ _ => ⟨[], own, false⟩
    | .buildSlice _ _ _ => ⟨[], own, false⟩
    | .makeSlice _ _ _ => ⟨[], own, false⟩
    | .makeMap _ _ => ⟨[], own, false⟩
    | .convert _ _ x => ⟨tagO (opd a x), own, false⟩
    | .lookup _ m _ _ => ⟨tagO (opd a m), [], false⟩
    | .mapUpdate _ m _ _ => ⟨[], tagO (opd a m), false⟩
    | .insert _ m _ _ => ⟨[], tagO (opd a m), false⟩
    | .call c =>
      let args := c.args.toList
      match c.callee with
      | .builtin .append => ⟨tagO (args[1]?.bind (opd a)), own ++ tagO (args[0]?.bind (opd a)), false⟩
      | .builtin .copy => ⟨tagO (args[1]?.bind (opd a)), tagO (args[0]?.bind (opd a)), false⟩
      | .builtin _ => ⟨args.flatMap fun x => tagO (opd a x), [], false⟩
      | .value f =>
        match opd a f with
        | some (.fn (.func g) first captured) =>
          let ts := (first ++ (args.filterMap (opd a)) ++ captured).flatMap (viewTags H.o vDepth)
          match E.mode g with
          | .pure true => ⟨ts, [], false⟩
          | .ext true => ⟨ts, [], false⟩
          | .pure false => ⟨ts, ts, false⟩
          | .ext false => ⟨ts, ts, false⟩
          | .raw _ => ⟨[], [], true⟩
        | _ => ⟨[], [], true⟩
      | _ => ⟨[], [], true⟩
    | _ => FP.none_
  else FP.none_
def disj (x y : FP) : Bool :=
  if x.all then !y.all && y.r.isEmpty && y.w.isEmpty
  else if y.all then x.r.isEmpty && x.w.isEmpty
  else x.w.all (fun t => !y.r.contains t && !y.w.contains t) && y.w.all (fun t => !x.r.contains t)
def stepsF (E : Env) (callP : CallP) (callR : CallR) (st : Nat) (ops : Array Oper) : List Oper → AAct → AH → Option (AAct × AH × List FP)
  | [], a, H => some (a, H, [])
  | o :: l, a, H => match step1 E callP callR st ops o a H with
    | some (a', H') => match stepsF E callP callR st ops l a' H' with
      | some (a'', H'', fs) => some (a'', H'', foot E st ops o a H :: fs)
      | none => none
    | none => none

/-! ### which operations an operation waits for -/
def before1 (done : List (List Nat)) (i : Nat) (o : Oper) : Option (List Nat) :=
  if o.after.toList.all (fun e => !Region.binds .any e || decide (e.on < i)) then
    some ((o.after.toList.filter (Region.binds .any)).flatMap fun e => e.on :: (done[e.on]?).getD [])
  else none
def befores : List Oper → List (List Nat) → Option (List (List Nat))
  | [], done => some done
  | o :: l, done => match before1 done done.length o with
    | some b => befores l (done ++ [b])
    | none => none
/-- 0: touches no memory; 1: reads; 2: writes, or makes. -/
def touch (E : Env) (o : Oper) : Nat :=
  match o.op with
  | .load _ _ => 1
  | .lookup _ _ _ _ => 1
  | .store _ _ _ => 2
  | .alloc _ => 2
  | .box _ _ => 2
  | .buildSlice _ _ _ => 2
  | .makeSlice _ _ _ => 2
  | .makeMap _ _ => 2
  | .convert _ _ _ => 2
  | .mapUpdate _ _ _ _ => 2
  | .insert _ _ _ _ => 2
  | .call c => match c.callee with
    | .builtin .append => 2
    | .builtin .copy => 2
    | .builtin _ => 1
    | .value (.func g) => match E.mode g with
      | .pure true => 1
      | .ext true => 1
      | _ => 2
    | _ => 2
  | _ => 0
def isSelect (o : Oper) : Bool := match o.op with | .select _ _ => true | _ => false
/-- The pairs of operations whose order is open and that may meet in memory; none: some pair is not told apart. -/
def openPairs (E : Env) (ops : Array Oper) : Option (List (Nat × Nat)) :=
  match befores ops.toList [] with
  | none => none
  | some bs =>
    let l := ops.toList.zipIdx
    if l.any (fun p => isSelect p.1) then none else
    let prs := l.flatMap fun (y, j) => (l.take j).filterMap fun (x, i) => if ((bs[j]?).getD []).contains i then none else some (x, i, y, j)
    if prs.all (fun (x, _, y, _) => x.apart ops y) then
      some ((prs.filter fun (x, _, y, _) => (touch E x == 2 && touch E y != 0) || (touch E y == 2 && touch E x != 0)).map fun (_, i, _, j) => (i, j))
    else none
def racesOk (fs : List FP) (prs : List (Nat × Nat)) : Bool :=
  prs.all fun (i, j) => match fs[i]?, fs[j]? with
    | some x, some y => disj x y
    | _, _ => false

/-! ### code -/
inductive Out where
  | normal
  | exit (id : Nat)
  | goto (l : Nat)
  | ret

abbrev Res := Option (Out × AAct × AH)
def evalRegion (E : Env) (callP : CallP) (callR : CallR) (ops : Array Oper) (draw : Bool) (a : AAct) (H : AH) : Res :=
  match draw with
  | false => (steps E callP callR H.nx ops ops.toList a { H with nx := H.nx + 1 }).map fun p => (.normal, p.1, p.2)
  | true =>
    match openPairs E ops with
    | some [] => (steps E callP callR H.nx ops ops.toList a { H with nx := H.nx + 1 }).map fun p => (.normal, p.1, p.2)
    | some prs => match stepsF E callP callR H.nx ops ops.toList a { H with nx := H.nx + 1 } with
      | some (a', H', fs) => if racesOk fs prs then some (.normal, a', H') else none
      | none => none
    | none => none
def seqR (r : Res) (f : AAct → AH → Res) : Res :=
  match r with
  | some (.normal, a, H) => f a H
  | r => r
def iter (f : AAct → AH → Res) : Nat → AAct → AH → Res
  | 0, _, _ => none
  | n + 1, a, H => seqR (f a H) (iter f n)
/-- Jumps to labels of the scope's own body. -/
def jumps (has : Nat → Bool) (g : Nat → AAct → AH → Res) : Nat → Res → Res
  | 0, _ => none
  | n + 1, r => match r with
    | some (.goto l, a, H) => if has l then jumps has g n (g l a H) else r
    | r => r
def evalC (E : Env) (callP : CallP) (callR : CallR) (k : Nat) : Option Nat → Code → AAct → AH → Res
  | none, .skip, a, H => some (.normal, a, H)
  | none, .label _, a, H => some (.normal, a, H)
  | some l, .label l', a, H => if l' = l then some (.normal, a, H) else none
  | none, .region _ ops draw, a, H => evalRegion E callP callR ops draw a H
  | none, .seq x y, a, H => seqR (evalC E callP callR k none x a H) (evalC E callP callR k none y)
  | some l, .seq x y, a, H =>
    if (findLabel x l).isSome then seqR (evalC E callP callR k (some l) x a H) (evalC E callP callR k none y)
    else evalC E callP callR k (some l) y a H
  | none, .cond c x y, a, H => match opd a c with
    | some (.bool true) => evalC E callP callR k none x a H
    | some (.bool false) => evalC E callP callR k none y a H
    | _ => none
  | none, .block id c, a, H => match evalC E callP callR k none c a H with
    | some (.exit id', a', H') => if id' = id then some (.normal, a', H') else some (.exit id', a', H')
    | r => r
  | none, .loop c, a, H => iter (evalC E callP callR k none c) k a H
  | none, .exit id, a, H => some (.exit id, a, H)
  | none, .goto l, a, H => some (.goto l, a, H)
  | none, .ret, a, H => some (.ret, a, H)
  | none, .scope c, a, H => jumps (fun l => (findLabel c l).isSome) (fun l => evalC E callP callR k (some l) c) k (evalC E callP callR k none c a H)
  | _, _, _, _ => none

/-! ### calls -/
def creates (o : Oper) : Bool :=
  match o.op with
  | .alloc _ => true
  | .box _ _ => true
  | .buildSlice _ _ _ => true
  | .makeSlice _ _ _ => true
  | .makeMap _ _ => true
  | .convert _ _ _ => true
  | .call c => match c.callee with
    | .builtin .append => true
    | _ => false
  | _ => false

def clash (x y : Oper) : Bool := creates x && creates y && x.dst.isSome && x.dst == y.dst
def newsOk : List Oper → Bool
  | [] => true
  | x :: l => l.all (fun y => !clash x y) && newsOk l
def opsDst (n : Nat) (ops : List Oper) : Bool := ops.all fun o => match o.dst with | some d => decide (d < n) | none => true
def codeDst (n : Nat) : Code → Bool
  | .region _ ops _ => opsDst n ops.toList && newsOk ops.toList
  | .seq a b => codeDst n a && codeDst n b
  | .cond _ a b => codeDst n a && codeDst n b
  | .block _ c => codeDst n c
  | .loop c => codeDst n c
  | .scope c => codeDst n c
  | .rangeFunc _ _ a b => codeDst n a && codeDst n b
  | _ => true
/-- The model's own name for a function without text; such a one is not run here. -/
def fnOk (fn : Func) : Bool := !(fn.name == "runtime.NumGoroutine") && (match fn.body with | some c => codeDst fn.ntmps c | none => false)
def begin_ (args : List AV) : AAct := fun t => (args[t]?).getD noV
def result1 (P : Program) (a : AAct) (H : AH) : ResultVar → Option AV
  | .tmp t => some (a t)
  | .cell ad t => aLoad P t (a ad) H
def resultsL (P : Program) (a : AAct) (H : AH) : List ResultVar → Option (List AV)
  | [] => some []
  | r :: rs => match result1 P a H r, resultsL P a H rs with
    | some v, some vs => some (v :: vs)
    | _, _ => none
def tup1 : List AV → AV
  | [v] => v
  | vs => .tup vs
def runBody (E : Env) (callP : CallP) (callR : CallR) (k : Nat) (f : FuncId) (args : List AV) (H : AH) : Option (AV × AH) :=
  match E.P.funcs[f]? with
  | none => none
  | some fn =>
    if fnOk fn && decide (args.length ≤ fn.ntmps) then
      match fn.body with
      | none => none
      | some c => match evalC E callP callR k none c (begin_ args) H with
        | some (.normal, a, H') => (resultsL E.P a H' fn.results.toList).map fun vs => (tup1 vs, H')
        | some (.ret, a, H') => (resultsL E.P a H' fn.results.toList).map fun vs => (tup1 vs, H')
        | _ => none
    else none
def noHeap : AH := { o := fun _ => none, nx := 0 }
def calls (E : Env) : Nat → CallP × CallR
  | 0 => (fun _ _ => none, fun _ _ _ => none)
  | n + 1 =>
    (fun f args => (runBody E (calls E n).1 (calls E n).2 (n + 1) f args noHeap).map fun p => view p.2.o vDepth p.1,
     fun f args H => runBody E (calls E n).1 (calls E n).2 (n + 1) f args H)

end Go.Proofs.Ytcaemgpificohaa.A
