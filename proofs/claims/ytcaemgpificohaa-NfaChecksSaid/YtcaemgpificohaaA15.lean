/- A, part 15: what an operation hangs on: its operands, its footprint. -/
import Derived.Test.YtcaemgpificohaaA14
set_option linter.unusedVariables false
set_option linter.unusedSimpArgs false
set_option linter.unnecessarySimpa false
namespace Go.Proofs.Ytcaemgpificohaa.A
open Go

/-! ### operands -/
theorem opds_congr {a b : AAct} : ∀ {l : List Operand}, (∀ x ∈ l, opd a x = opd b x) → opds a l = opds b l
  | [], _ => rfl
  | x :: l, h => by
    simp only [opds]
    rw [h x (List.mem_cons_self ..), opds_congr (fun y hy => h y (List.mem_cons_of_mem _ hy))]
theorem partsOf_congr {a b : AAct} : ∀ {l : List (Nat × Operand)}, (∀ p ∈ l, opd a p.2 = opd b p.2) → partsOf a l = partsOf b l
  | [], _ => rfl
  | (i, x) :: l, h => by
    simp only [partsOf]
    rw [h (i, x) (List.mem_cons_self ..), partsOf_congr (fun y hy => h y (List.mem_cons_of_mem _ hy))]
theorem opdI_congr {a b : AAct} {x : Operand} (h : opd a x = opd b x) : opdI a x = opdI b x := by simp only [opdI, h]
theorem opdB_congr {a b : AAct} {x : Option Operand} (h : ∀ y, x = some y → opd a y = opd b y) : opdB a x = opdB b x := by
  cases x with
  | none => rfl
  | some y => simp only [opdB, opdI_congr (h y rfl)]

theorem evalOp_congr {E : Env} {cp : CallP} {cr : CallR} {st : Nat} {o : Oper} {a b : AAct} {H : AH} (h : ∀ x ∈ o.op.operands, opd a x = opd b x) : evalOp E cp cr st o a H = evalOp E cp cr st o b H := by
  obtain ⟨dst, op, type, pos, after, guard⟩ := o
  cases op <;> simp only [Op.operands] at h <;> simp only [evalOp]
  case build t ps => rw [partsOf_congr fun p hp => h p.2 (by simp; exact ⟨p.1, by simpa using hp⟩)]
  case buildSlice t n ps => rw [partsOf_congr fun p hp => h p.2 (by simp; exact ⟨p.1, by simpa using hp⟩)]
  case makeFunc fn first captured => rw [opds_congr fun x hx => h x (by simp at hx; simp [hx]), opds_congr (l := captured.toList) fun x hx => h x (by simp at hx; simp [hx])]
  case slice t x lo hi mx =>
    cases mx with
    | some m => rfl
    | none =>
      dsimp only
      rw [h x (by simp), opdB_congr (x := lo) fun y hy => h y (by simp [hy]), opdB_congr (x := hi) fun y hy => h y (by simp [hy])]
  case call c =>
    rw [opds_congr fun x hx => h x (by simp at hx; simp [Call.operands, hx])]
    cases hc : c.callee with
    | value f => simp only [h f (by simp [Call.operands, hc])]
    | invoke r m => rfl
    | builtin bi => cases bi <;> rfl
  case makeSlice t l c => rw [opdI_congr (h l (by simp)), opdI_congr (h c (by simp))]
  case indexAddr t x i => rw [h x (by simp), opdI_congr (h i (by simp))]
  case index t x i => rw [h x (by simp), opdI_congr (h i (by simp))]
  all_goals (first | rfl | (simp_all; done))

theorem opd_put {a : AAct} {d : Option Nat} {v : AV} {x : Operand} (h : ∀ t, d = some t → x ≠ .tmp t) : opd (putO a d v) x = opd a x := by
  cases d with
  | none => rfl
  | some t =>
    cases x with
    | tmp u =>
      have : u ≠ t := fun e => h t rfl (by rw [e])
      simp only [opd, putO, put_ne _ _ _ _ this]
    | _ => rfl
theorem looks_opd {ops : Array Oper} {o : Oper} {a : AAct} {d : Option Nat} {v : AV} (h : ∀ t, d = some t → t ∉ o.looksAt ops) : ∀ x ∈ o.op.operands, opd (putO a d v) x = opd a x := fun x hx =>
  opd_put fun t ht e => h t ht (by
    subst e
    exact List.mem_append_left _ (List.mem_filterMap.2 ⟨.tmp t, by simpa using hx, rfl⟩))
theorem looks_wanted {ops : Array Oper} {o : Oper} {a : AAct} {d : Option Nat} {v : AV} (h : ∀ t, d = some t → t ∉ o.looksAt ops) : wantedA ops (putO a d v) o = wantedA ops a o := by
  cases d with
  | none => rfl
  | some t =>
    unfold wantedA
    cases hg : o.guard with
    | none => rfl
    | some gw =>
      obtain ⟨g, want⟩ := gw
      have : yieldedA ops (putO a (some t) v) g = yieldedA ops a g := by
        unfold yieldedA
        cases ht : (ops[g]?).bind (·.dst) with
        | none => rfl
        | some u =>
          have hne : u ≠ t := fun e => h t rfl (by subst e; simp [Oper.looksAt, hg, ht])
          simp only [putO, put_ne _ _ _ _ hne]
      dsimp only
      rw [this]

theorem foot_congr {E : Env} {st : Nat} {ops : Array Oper} {o : Oper} {a b : AAct} {H : AH} (hw : wantedA ops a o = wantedA ops b o) (h : ∀ x ∈ o.op.operands, opd a x = opd b x) : foot E st ops o a H = foot E st ops o b H := by
  have fm : ∀ {l : List Operand}, (∀ x ∈ l, opd a x = opd b x) → l.filterMap (opd a) = l.filterMap (opd b) := fun {l} hl => by
    induction l with
    | nil => rfl
    | cons x l ih =>
      simp only [List.filterMap_cons, hl x (List.mem_cons_self ..)]
      rw [ih (fun y hy => hl y (List.mem_cons_of_mem _ hy))]
  have fl : ∀ {l : List Operand}, (∀ x ∈ l, opd a x = opd b x) → l.flatMap (fun x => tagO (opd a x)) = l.flatMap (fun x => tagO (opd b x)) := fun {l} hl => by
    induction l with
    | nil => rfl
    | cons x l ih =>
      simp only [List.flatMap_cons, hl x (List.mem_cons_self ..)]
      rw [ih (fun y hy => hl y (List.mem_cons_of_mem _ hy))]
  unfold foot
  rw [hw]
  split
  · rename_i hgo
    clear hgo hw
    obtain ⟨dst, op, type, pos, after, guard⟩ := o
    cases op <;> simp only [Op.operands] at h <;> dsimp only
    case call c =>
      have hargs : ∀ x ∈ c.args.toList, opd a x = opd b x := fun x hx => h x (by simp at hx; simp [Call.operands, hx])
      have at_ : ∀ i : Nat, (c.args.toList[i]?).bind (opd a) = (c.args.toList[i]?).bind (opd b) := fun i => by
        cases hx : c.args.toList[i]? with
        | none => rfl
        | some x => simp only [Option.bind_some]; exact hargs x (List.mem_of_getElem? hx)
      rw [fm hargs, fl hargs, at_ 0, at_ 1]
      cases hc : c.callee with
      | value f => simp only [h f (by simp [Call.operands, hc])]
      | invoke r m => rfl
      | builtin bi => cases bi <;> rfl
    all_goals (first | rfl | (simp_all; done))
  · rfl

/-! ### heaps that agree -/
def Same (ts : List Tag) (o o' : Tag → Option AObj) : Prop := ∀ t ∈ ts, o' t = o t
theorem Same.left {ts us : List Tag} {o o' : Tag → Option AObj} (h : Same (ts ++ us) o o') : Same ts o o' := fun t ht => h t (List.mem_append_left _ ht)
theorem Same.right {ts us : List Tag} {o o' : Tag → Option AObj} (h : Same (ts ++ us) o o') : Same us o o' := fun t ht => h t (List.mem_append_right _ ht)
theorem aRow_same {o o' : Tag → Option AObj} {k g : Tag} (h : o' k = o k) : aRow o' k g = aRow o k g := by simp only [aRow, h]
theorem cells_same {o o' : Tag → Option AObj} {x : AV} (h : Same (tagOf x) o o') : sliceCells o' x = sliceCells o x := by
  unfold sliceCells
  cases x with
  | ref k g off n => simp only [aRow_same (g := g) (h k (by simp [tagOf]))]
  | _ => rfl
theorem src_same {o o' : Tag → Option AObj} {x : AV} (h : Same (tagOf x) o o') : srcOf o' x = srcOf o x := by
  unfold srcOf
  cases x with
  | str s => rfl
  | _ => exact cells_same h
theorem load_same {P : Program} {t : TypeId} {x : AV} {H H' : AH} (h : Same (tagOf x) H.o H'.o) : aLoad P t x H' = aLoad P t x H := by
  unfold aLoad
  cases x with
  | ptr k g off => simp only [aRow_same (g := g) (h k (by simp [tagOf]))]
  | _ => rfl
theorem tags_same {o o' : Tag → Option AObj} : ∀ (d : Nat) (x : AV), Same (viewTags o d x) o o' → viewTags o' d x = viewTags o d x ∧ view o' d x = view o d x
  | 0, x, _ => ⟨rfl, rfl⟩
  | d + 1, x, h => by
    have list : ∀ (l : List AV), Same (l.flatMap (viewTags o d)) o o' → l.flatMap (viewTags o' d) = l.flatMap (viewTags o d) ∧ l.map (view o' d) = l.map (view o d) := fun l => by
      induction l with
      | nil => exact fun _ => ⟨rfl, rfl⟩
      | cons y l ih =>
        intro hl
        simp only [List.flatMap_cons] at hl
        obtain ⟨i1, i2⟩ := tags_same d y hl.left
        obtain ⟨j1, j2⟩ := ih hl.right
        simp only [List.flatMap_cons, List.map_cons, i1, i2, j1, j2, and_self]
    cases x with
    | agg cs => obtain ⟨i1, i2⟩ := list cs h; simp only [viewTags, view, i1, i2, and_self]
    | tup cs => obtain ⟨i1, i2⟩ := list cs h; simp only [viewTags, view, i1, i2, and_self]
    | fn f fs cs =>
      simp only [viewTags] at h
      obtain ⟨i1, i2⟩ := list fs h.left
      obtain ⟨j1, j2⟩ := list cs h.right
      simp only [viewTags, view, i1, i2, j1, j2, and_self]
    | ref k g off n =>
      have hk : o' k = o k := by
        refine h k ?_
        simp only [viewTags]
        split <;> simp
      simp only [viewTags, view, aRow_same (g := g) hk]
      cases hr : aRow o k g with
      | none => exact ⟨rfl, rfl⟩
      | some r =>
        simp only [viewTags, hr] at h
        obtain ⟨i1, i2⟩ := list _ (fun t ht => h t (List.mem_cons_of_mem _ ht))
        dsimp only
        rw [i1, i2]
        exact ⟨rfl, rfl⟩
    | _ => exact ⟨rfl, rfl⟩
theorem views_same {o o' : Tag → Option AObj} (d : Nat) : ∀ (l : List AV), Same (l.flatMap (viewTags o d)) o o' → l.flatMap (viewTags o' d) = l.flatMap (viewTags o d) ∧ l.map (view o' d) = l.map (view o d)
  | [], _ => ⟨rfl, rfl⟩
  | y :: l, hl => by
    simp only [List.flatMap_cons] at hl
    obtain ⟨i1, i2⟩ := tags_same d y hl.left
    obtain ⟨j1, j2⟩ := views_same d l hl.right
    simp only [List.flatMap_cons, List.map_cons, i1, i2, j1, j2, and_self]

/-! ### what an operation lays over the heap -/
def over (D : Tag → Option AObj) (H : AH) : AH := { H with o := fun t => match D t with | some x => some x | none => H.o t }
theorem over_none (H : AH) : over (fun _ => none) H = H := rfl
theorem over_row (H : AH) (t : Tag) (x : AObj) : ({ H with o := upd H.o t x } : AH) = over (upd (fun _ => none) t x) H := by
  simp only [over, AH.mk.injEq, and_true]
  funext u
  unfold upd
  by_cases e : u = t
  · simp only [e, if_true]
  · simp only [e, if_false]
/-- Only its footprint is asked, only its footprint is written. -/
structure Local (ev : AH → Option (AV × AH)) (ft : AH → FP) (H : AH) (v : AV) (H' : AH) (D : Tag → Option AObj) : Prop where
  w : ∀ t x, D t = some x → t ∈ (ft H).w
  out : H' = over D H
  same : ∀ H2 : AH, Same ((ft H).r ++ (ft H).w) H.o H2.o → ev H2 = some (v, over D H2) ∧ ft H2 = ft H

/-- The footprint of what is to be done. -/
theorem foot_go {E : Env} {st : Nat} {ops : Array Oper} {o : Oper} {a : AAct} (hw : wantedA ops a o = some true) (H : AH) : foot E st ops o a H =
    (let own : List Tag := match o.dst with | some d => [(st, d)] | none => []
    match o.op with
    | .load _ x => ⟨tagO (opd a x), [], false⟩
    | .store _ p _ => ⟨[], tagO (opd a p), false⟩
    | .alloc _ => ⟨[], own, false⟩
    | .box _ _ => ⟨[], own, false⟩
    | .buildSlice _ _ _ => ⟨[], own, false⟩
    | .makeSlice _ _ _ => ⟨[], own, false⟩
    | .makeMap _ _ => ⟨[], own, false⟩
    | .convert _ _ x => ⟨tagO (opd a x), own, false⟩
    | .lookup _ m _ _ => ⟨tagO (opd a m), [], false⟩
    | .mapUpdate _ m _ _ => ⟨[], tagO (opd a m), false⟩
    | .insert _ m _ _ => ⟨[], tagO (opd a m), false⟩
    | .call c =>
      let args := c.args.toList
      match c.callee with
      | .builtin .append => ⟨tagO (args[1]?.bind (opd a)), own ++ tagO (args[0]?.bind (opd a)), false⟩
      | .builtin .copy => ⟨tagO (args[1]?.bind (opd a)), tagO (args[0]?.bind (opd a)), false⟩
      | .builtin _ => ⟨args.flatMap fun x => tagO (opd a x), [], false⟩
      | .value f =>
        match opd a f with
        | some (.fn (.func g) first captured) =>
          let ts := (first ++ (args.filterMap (opd a)) ++ captured).flatMap (viewTags H.o vDepth)
          match E.mode g with
          | .pure true => ⟨ts, [], false⟩
          | .ext true => ⟨ts, [], false⟩
          | .pure false => ⟨ts, ts, false⟩
          | .ext false => ⟨ts, ts, false⟩
          | .raw _ => ⟨[], [], true⟩
        | _ => ⟨[], [], true⟩
      | _ => ⟨[], [], true⟩
    | _ => FP.none_) := by
  unfold foot
  rw [if_pos hw]
  rfl

section
variable {E : Env} {cp : CallP} {cr : CallR} {st : Nat} {ops : Array Oper} {o : Oper} {a : AAct} {H H' : AH} {v : AV}

/-- An operation that hands the heap on as it is, and asks it nothing. -/
theorem local_flat (hw : wantedA ops a o = some true) (hf : ∀ H2, foot E st ops o a H2 = FP.none_) {x : Option AV} (he : ∀ H2, evalOp E cp cr st o a H2 = x.map (·, H2)) (h : evalOp E cp cr st o a H = some (v, H')) :
    ∃ D, Local (evalOp E cp cr st o a) (foot E st ops o a) H v H' D := by
  rw [he] at h
  replace h := mapH h
  obtain ⟨hx, rfl⟩ := h
  subst hx
  exact ⟨fun _ => none, { w := fun t x h => (by cases h), out := rfl, same := fun H2 _ => ⟨by rw [he]; rfl, by rw [hf, hf]⟩ }⟩
/-- An operation that makes one thing, of its operands alone. -/
theorem local_make {d : Nat} (hd : o.dst = some d) (hf : ∀ H2, foot E st ops o a H2 = ⟨[], [(st, d)], false⟩) {x : Option (AV × AObj)} (he : ∀ H2, evalOp E cp cr st o a H2 = x.map fun p => (p.1, { H2 with o := upd H2.o (st, d) p.2 })) (h : evalOp E cp cr st o a H = some (v, H')) :
    ∃ D, Local (evalOp E cp cr st o a) (foot E st ops o a) H v H' D := by
  rw [he] at h
  cases x with
  | none => cases h
  | some p =>
    simp only [Option.map_some] at h
    injection h with h
    injection h with h1 h2
    subst h1; subst h2
    refine ⟨upd (fun _ => none) (st, d) p.2, { w := fun t x ht => ?_, out := over_row .., same := fun H2 _ => ⟨by rw [he, Option.map_some, over_row], by rw [hf, hf]⟩ }⟩
    rw [hf]
    unfold upd at ht
    split at ht
    · rename_i e; simp [e]
    · cases ht
end

end Go.Proofs.Ytcaemgpificohaa.A
