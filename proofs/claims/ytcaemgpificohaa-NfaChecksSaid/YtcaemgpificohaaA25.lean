/- A, part 25: code whose drawn regions have been looked through beforehand; contracts, function by function. -/
import Derived.Test.YtcaemgpificohaaA24
set_option linter.unusedVariables false
set_option linter.unusedSimpArgs false
set_option linter.unnecessarySimpa false
namespace Go.Proofs.Ytcaemgpificohaa.A
open Go

section
variable (E : Env) (cp : CallP) (cr : CallR) (k : Nat) (nz : Nat → Option (List (Nat × Nat)))

/-- As 'stepsF', but the footprints alone that are asked for. -/
def stepsN (st : Nat) (ops : Array Oper) (need : Nat → Bool) : Nat → List Oper → AAct → AH → Option (AAct × AH × List FP)
  | _, [], a, H => some (a, H, [])
  | i, o :: l, a, H => match step1 E cp cr st ops o a H with
    | some (a', H') => match stepsN st ops need (i + 1) l a' H' with
      | some (a'', H'', fs) => some (a'', H'', (match need i with | true => foot E st ops o a H | false => FP.none_) :: fs)
      | none => none
    | none => none
def needOf (prs : List (Nat × Nat)) (i : Nat) : Bool :=
  match prs with
  | [] => false
  | (a, b) :: l => Nat.beq a i || Nat.beq b i || needOf l i
theorem stepsN_eq (st : Nat) (ops : Array Oper) (need : Nat → Bool) : ∀ (l : List Oper) (i : Nat) (a : AAct) (H : AH), match stepsF E cp cr st ops l a H with
    | some (a', H', fs) => ∃ gs, stepsN E cp cr st ops need i l a H = some (a', H', gs) ∧ gs.length = fs.length ∧ ∀ j, need (i + j) = true → gs[j]? = fs[j]?
    | none => stepsN E cp cr st ops need i l a H = none
  | [], i, a, H => ⟨[], rfl, rfl, fun j _ => rfl⟩
  | o :: l, i, a, H => by
    unfold stepsF stepsN
    cases hs : step1 E cp cr st ops o a H with
    | none => rfl
    | some p =>
      obtain ⟨a1, H1⟩ := p
      have ih := stepsN_eq st ops need l (i + 1) a1 H1
      dsimp only
      cases hf : stepsF E cp cr st ops l a1 H1 with
      | none =>
        rw [hf] at ih
        dsimp only at ih ⊢
        rw [ih]
      | some q =>
        obtain ⟨a2, H2, fs⟩ := q
        rw [hf] at ih
        obtain ⟨gs, h1, h2, h3⟩ := ih
        dsimp only
        rw [h1]
        refine ⟨_, rfl, by simp [h2], fun j hj => ?_⟩
        cases j with
        | zero =>
          have : need i = true := by simpa using hj
          simp [this]
        | succ j =>
          simp only [List.getElem?_cons_succ]
          exact h3 j (by rw [← hj]; congr 1; omega)
theorem need_races {prs : List (Nat × Nat)} {fs gs : List FP} (hg : ∀ j, needOf prs j = true → gs[j]? = fs[j]?) : racesOk gs prs = racesOk fs prs := by
  unfold racesOk
  have key : ∀ l : List (Nat × Nat), (∀ p ∈ l, needOf prs p.1 = true ∧ needOf prs p.2 = true) → (l.all fun (i, j) => match gs[i]?, gs[j]? with | some x, some y => disj x y | _, _ => false) = l.all fun (i, j) => match fs[i]?, fs[j]? with | some x, some y => disj x y | _, _ => false := fun l => by
    induction l with
    | nil => exact fun _ => rfl
    | cons p l ih =>
      intro h
      obtain ⟨i, j⟩ := p
      obtain ⟨h1, h2⟩ := h (i, j) (List.mem_cons_self ..)
      simp only [List.all_cons]
      rw [ih (fun p hp => h p (List.mem_cons_of_mem _ hp)), hg i h1, hg j h2]
  have mem : ∀ (l : List (Nat × Nat)) (p : Nat × Nat), p ∈ l → needOf l p.1 = true ∧ needOf l p.2 = true := fun l => by
    induction l with
    | nil => intro p hp; cases hp
    | cons q l ih =>
      intro p hp
      obtain ⟨a, b⟩ := q
      simp only [needOf, Bool.or_eq_true, Nat.beq_eq_true_eq]
      rcases List.mem_cons.1 hp with h | h
      · subst h; exact ⟨.inl (.inl (Nat.beq_refl a)), .inl (.inr (Nat.beq_refl b))⟩
      · exact ⟨.inr (ih p h).1, .inr (ih p h).2⟩
  exact key prs (mem prs)

def regionP (prs : Option (List (Nat × Nat))) (ops : Array Oper) (a : AAct) (H : AH) : Res :=
  match prs with
  | none => (steps E cp cr H.nx ops ops.toList a { H with nx := H.nx + 1 }).map fun p => (.normal, p.1, p.2)
  | some prs => match stepsN E cp cr H.nx ops (needOf prs) 0 ops.toList a { H with nx := H.nx + 1 } with
    | some (a', H', fs) => if racesOk fs prs then some (.normal, a', H') else none
    | none => none
/-- As 'evalC', but for the drawn regions: which of them have pairs that may meet is given. -/
def evalP : Option Nat → Code → AAct → AH → Res
  | none, .skip, a, H => some (.normal, a, H)
  | none, .label _, a, H => some (.normal, a, H)
  | some l, .label l', a, H => if l' = l then some (.normal, a, H) else none
  | none, .region id ops draw, a, H => regionP E cp cr (match draw with | true => nz id | false => none) ops a H
  | none, .seq x y, a, H => seqR (evalP none x a H) (evalP none y)
  | some l, .seq x y, a, H =>
    if (findLabel x l).isSome then seqR (evalP (some l) x a H) (evalP none y)
    else evalP (some l) y a H
  | none, .cond c x y, a, H => match opd a c with
    | some (.bool true) => evalP none x a H
    | some (.bool false) => evalP none y a H
    | _ => none
  | none, .block id c, a, H => match evalP none c a H with
    | some (.exit id', a', H') => if id' = id then some (.normal, a', H') else some (.exit id', a', H')
    | r => r
  | none, .loop c, a, H => iter (evalP none c) k a H
  | none, .exit id, a, H => some (.exit id, a, H)
  | none, .goto l, a, H => some (.goto l, a, H)
  | none, .ret, a, H => some (.ret, a, H)
  | none, .scope c, a, H => jumps (fun l => (findLabel c l).isSome) (fun l => evalP (some l) c) k (evalP none c a H)
  | _, _, _, _ => none
def checkP : Code → Bool
  | .region id ops true => match openPairs E ops, nz id with
    | some [], none => true
    | some (p :: prs), some prs' => (p :: prs) == prs'
    | _, _ => false
  | .seq a b => checkP a && checkP b
  | .cond _ a b => checkP a && checkP b
  | .block _ c => checkP c
  | .loop c => checkP c
  | .scope c => checkP c
  | _ => true

theorem evalP_eq : ∀ (c : Code) (s : Option Nat), checkP E nz c = true → ∀ a H, evalP E cp cr k nz s c a H = evalC E cp cr k s c a H
  | .region id ops draw, none, h, a, H => by
    simp only [evalP, evalC, evalRegion, regionP]
    cases draw with
    | false => rfl
    | true =>
      simp only [checkP] at h
      split at h
      · rename_i h1 h2
        simp only [h1, h2]
      · rename_i p prs prs' h1 h2
        have e : p :: prs = prs' := by simpa using h
        subst e
        simp only [h1, h2]
        have key := stepsN_eq E cp cr H.nx ops (needOf (p :: prs)) ops.toList 0 a { o := H.o, nx := H.nx + 1 }
        cases hf : stepsF E cp cr H.nx ops ops.toList a { o := H.o, nx := H.nx + 1 } with
        | none =>
          rw [hf] at key
          dsimp only at key
          rw [key]
        | some q =>
          obtain ⟨a', H', fs⟩ := q
          rw [hf] at key
          obtain ⟨gs, h3, _, h4⟩ := key
          rw [h3]
          dsimp only
          rw [need_races (fun j hj => h4 j (by simpa using hj))]
      · cases h
  | .seq x y, none, h, a, H => by
    simp only [checkP, Bool.and_eq_true] at h
    simp only [evalP, evalC]
    rw [evalP_eq x none h.1, show evalP E cp cr k nz none y = evalC E cp cr k none y from funext fun a => funext fun H => evalP_eq y none h.2 a H]
  | .seq x y, some l, h, a, H => by
    simp only [checkP, Bool.and_eq_true] at h
    simp only [evalP, evalC]
    rw [evalP_eq x (some l) h.1, evalP_eq y (some l) h.2, show evalP E cp cr k nz none y = evalC E cp cr k none y from funext fun a => funext fun H => evalP_eq y none h.2 a H]
  | .cond c x y, none, h, a, H => by
    simp only [checkP, Bool.and_eq_true] at h
    simp only [evalP, evalC]
    rw [evalP_eq x none h.1, evalP_eq y none h.2]
    rfl
  | .block id c, none, h, a, H => by
    simp only [checkP] at h
    simp only [evalP, evalC]
    rw [evalP_eq c none h]
    rfl
  | .loop c, none, h, a, H => by
    simp only [checkP] at h
    simp only [evalP, evalC]
    rw [show evalP E cp cr k nz none c = evalC E cp cr k none c from funext fun a => funext fun H => evalP_eq c none h a H]
  | .scope c, none, h, a, H => by
    simp only [checkP] at h
    simp only [evalP, evalC]
    rw [evalP_eq c none h, show (fun l => evalP E cp cr k nz (some l) c) = fun l => evalC E cp cr k (some l) c from funext fun l => funext fun a => funext fun H => evalP_eq c (some l) h a H]
  | .skip, none, _, _, _ => rfl
  | .label _, none, _, _, _ => rfl
  | .label _, some _, _, _, _ => rfl
  | .exit _, none, _, _, _ => rfl
  | .goto _, none, _, _, _ => rfl
  | .ret, none, _, _, _ => rfl
  | .rangeFunc _ _ _ _, none, _, _, _ => rfl
  | .rangeFunc _ _ _ _, some _, _, _, _ => rfl
  | .refuse _, none, _, _, _ => rfl
  | .refuse _, some _, _, _, _ => rfl
  | .skip, some _, _, _, _ => rfl
  | .region _ _ _, some _, _, _, _ => rfl
  | .cond _ _ _, some _, _, _, _ => rfl
  | .block _ _, some _, _, _, _ => rfl
  | .loop _, some _, _, _, _ => rfl
  | .exit _, some _, _, _, _ => rfl
  | .goto _, some _, _, _, _ => rfl
  | .ret, some _, _, _, _ => rfl
  | .scope _, some _, _, _, _ => rfl
end

/-- The run of a body, and what it hands back. -/
def runP (E : Env) (cr : CallR) (k : Nat) (nz : Nat → Option (List (Nat × Nat))) (fn : Func) (args : List AV) (H : AH) : Option (AV × AH) :=
  match fn.body with
  | none => none
  | some c => match evalP E (fun _ _ => none) cr k nz none c (begin_ args) H with
    | some (.normal, a, H') => (resultsL E.P a H' fn.results.toList).map fun vs => (tup1 vs, H')
    | some (.ret, a, H') => (resultsL E.P a H' fn.results.toList).map fun vs => (tup1 vs, H')
    | _ => none
/-- What is looked through beforehand, once for a function. -/
def lookedAt (E : Env) (nz : Nat → Option (List (Nat × Nat))) (n : Nat) (fn : Func) : Bool :=
  fnOk fn && decide (n ≤ fn.ntmps) && match fn.body with | some c => checkP E nz c | none => false
theorem runP_body {E : Env} {cr : CallR} {k : Nat} {nz : Nat → Option (List (Nat × Nat))} {fn : Func} {f : FuncId} {args : List AV} {H : AH} (hf : E.P.funcs[f]? = some fn) (hl : lookedAt E nz args.length fn = true) : runBody E (fun _ _ => none) cr k f args H = runP E cr k nz fn args H := by
  unfold lookedAt at hl
  simp only [Bool.and_eq_true] at hl
  unfold runBody runP
  rw [hf]
  dsimp only
  rw [if_pos (by simp [hl.1.1, hl.1.2])]
  cases hb : fn.body with
  | none => rfl
  | some c =>
    rw [hb] at hl
    dsimp only
    rw [evalP_eq _ _ _ _ _ c none hl.2]
    rfl

/-- A contract: called on that data it hands back that data, and writes nothing of old. -/
def Ok (P : Program) (f : FuncId) (args : List AV) (r : AV) : Prop := EnterOk P f ∧ ∀ (S : Nat → Prop) (w : World) (cargs : List Value), LR (PR S w) args cargs → (∀ b, S b → b < w.heap.size) → Calls P f cargs.toArray w (RetP S w r)
theorem cp_none (P : Program) : CPSound P (fun _ _ => none) := fun g args r h => by cases h

theorem ok_run {E : Env} {cr : CallR} (hX : CPSound E.P E.ext) (hR : CRSound E.P cr) (hU : Up cr) (hm : E.P.follows .mixedOrders = true) {k : Nat} {nz : Nat → Option (List (Nat × Nat))} {fn : Func} {f : FuncId} {args : List AV} {v : AV} {H' : AH} (hf : E.P.funcs[f]? = some fn)
    (hl : lookedAt E nz args.length fn = true) (h : runP E cr k nz fn args noHeap = some (v, H')) : Ok E.P f args (view H'.o vDepth v) := by
  rw [← runP_body hf hl] at h
  obtain ⟨hE, _, hc⟩ := body_sound (cp_none E.P) hX hR hm hU h
  refine ⟨hE, fun S w cargs ha hS => ?_⟩
  refine (hc (Ctx.data S w) cargs (inv_data hS) rfl (fun t ht => ht.elim) (ha.weak fun x u _ h => .data x u h)).mono ?_
  rintro e w' ⟨u, c', rfl, rfl, hi, hs, hH, hv, _⟩
  obtain ⟨i2, s2⟩ := shut_rows hi (viewTags c'.H vDepth v)
  have s3 := hs.trans s2
  have dead : ∀ k, ¬ Live (Ctx.data S w) k := fun k hk => by obtain ⟨o, ho, _⟩ := hk; cases ho
  refine ⟨u, (c'.shut (viewTags c'.H vDepth v)).S, rfl, ⟨hs.os, hs.tape, hs.output, hs.size, fun b hb => hs.keep b hb (fun k hk => (dead k hk).elim)⟩, ?_, s3.mono.S, fun b hb => ⟨?_, i2.imm b hb⟩⟩
  · rw [← hH]
    exact view_rel hi _ s2.mono.S vDepth v u hv (fun k rr hk hrow => .inr ⟨k, rr, hk, hrow, rfl⟩)
  · rcases s3.Snew b hb with h1 | h1 | ⟨k, hk, _⟩
    · exact .inl h1
    · exact .inr h1
    · exact (dead k hk).elim
/-- A contract on the caller's heap. -/
def OkR (P : Program) (f : FuncId) (args : List AV) (H : AH) (v : AV) (H' : AH) : Prop := EnterOk P f ∧ H.nx ≤ H'.nx ∧ ∀ (c : Ctx) (cargs : List Value), Inv c → c.H = H.o → (∀ t, c.T t → t.1 < H.nx) → LR (VR c) args cargs → Calls P f cargs.toArray c.w (RetR c H.nx H'.nx H'.o v)
theorem okR_run {E : Env} {cr : CallR} (hX : CPSound E.P E.ext) (hR : CRSound E.P cr) (hU : Up cr) (hm : E.P.follows .mixedOrders = true) {k : Nat} {nz : Nat → Option (List (Nat × Nat))} {fn : Func} {f : FuncId} {args : List AV} {v : AV} {H H' : AH} (hf : E.P.funcs[f]? = some fn)
    (hl : lookedAt E nz args.length fn = true) (h : runP E cr k nz fn args H = some (v, H')) : OkR E.P f args H v H' := by
  rw [← runP_body hf hl] at h
  exact body_sound (cp_none E.P) hX hR hm hU h
theorem ok_calls {E : Env} (hX : CPSound E.P E.ext) (hm : E.P.follows .mixedOrders = true) {n : Nat} {f : FuncId} {args : List AV} {r : AV} (h : (calls E n).1 f args = some r) : Ok E.P f args r := (calls_sound E hX hm n).1 f args r h

/-! ### tables of contracts -/
abbrev Tab := List (FuncId × (List AV → Option AV))
def tabLook (t : Tab) (f : FuncId) (args : List AV) : Option AV :=
  match t with
  | [] => none
  | (g, c) :: t => if f = g then c args else tabLook t f args
def tabHas (t : Tab) (f : FuncId) : Bool :=
  match t with
  | [] => false
  | (g, _) :: t => f == g || tabHas t f
theorem tab_nil (P : Program) : CPSound P (tabLook []) := fun g args r h => by cases h
theorem tab_cons {P : Program} {t : Tab} {g : FuncId} {c : List AV → Option AV} (ht : CPSound P (tabLook t)) (h : ∀ args r, c args = some r → Ok P g args r) : CPSound P (tabLook ((g, c) :: t)) := fun f args r hr => by
  simp only [tabLook] at hr
  split at hr
  · rename_i e; subst e; exact h args r hr
  · exact ht f args r hr
abbrev TabR := List (FuncId × (List AV → AH → Option (AV × AH)))
def tabLookR (t : TabR) (f : FuncId) (args : List AV) (H : AH) : Option (AV × AH) :=
  match t with
  | [] => none
  | (g, c) :: t => if f = g then c args H else tabLookR t f args H
theorem tabR_nil (P : Program) : CRSound P (tabLookR []) ∧ Up (tabLookR []) := ⟨fun g args H v H' h => (by cases h), fun g args H v H' h => (by cases h)⟩
theorem tabR_cons {P : Program} {t : TabR} {g : FuncId} {c : List AV → AH → Option (AV × AH)} (ht : CRSound P (tabLookR t) ∧ Up (tabLookR t)) (h : ∀ args H v H', c args H = some (v, H') → OkR P g args H v H') : CRSound P (tabLookR ((g, c) :: t)) ∧ Up (tabLookR ((g, c) :: t)) := by
  refine ⟨fun f args H v H' hr => ?_, fun f args H v H' hr => ?_⟩
  · simp only [tabLookR] at hr
    split at hr
    · rename_i e; subst e; exact h args H v H' hr
    · exact ht.1 f args H v H' hr
  · simp only [tabLookR] at hr
    split at hr
    · rename_i e; subst e; exact (h args H v H' hr).2.1
    · exact ht.2 f args H v H' hr

end Go.Proofs.Ytcaemgpificohaa.A
