/- A, part 15: what an operation hangs on: its operands, its footprint. -/
import Derived.Test.YtpmjpogcaglphaaDoorME91
import Derived.Test.YtpmjpogcaglphaaDoorME92
set_option linter.unusedVariables false
set_option linter.unusedSimpArgs false
set_option linter.unnecessarySimpa false
namespace Go.Proofs.YtpmjpogcaglphaaDoor.A
open Go

/-! ### operands -/
theorem opds_congr {a b : AAct} : ∀ {l : List Operand}, (∀ x ∈ l, opd a x = opd b x) → opds a l = opds b l
  | [], _ => rfl
  | x :: l, h => by
    simp only [opds]
    rw [h x (List.mem_cons_self ..), opds_congr (fun y hy => h y (List.mem_cons_of_mem _ hy))]
theorem partsOf_congr {a b : AAct} : ∀ {l : List (Nat × Operand)}, (∀ p ∈ l, opd a p.2 = opd b p.2) → partsOf a l = partsOf b l
  | [], _ => rfl
  | (i, x) :: l, h => by
    simp only [partsOf]
    rw [h (i, x) (List.mem_cons_self ..), partsOf_congr (fun y hy => h y (List.mem_cons_of_mem _ hy))]
theorem opdI_congr {a b : AAct} {x : Operand} (h : opd a x = opd b x) : opdI a x = opdI b x := by simp only [opdI, h]
theorem opdB_congr {a b : AAct} {x : Option Operand} (h : ∀ y, x = some y → opd a y = opd b y) : opdB a x = opdB b x := by
  cases x with
  | none => rfl
  | some y => simp only [opdB, opdI_congr (h y rfl)]

theorem evalOp_congr {E : Env} {cp : CallP} {cr : CallR} {st : Nat} {o : Oper} {a b : AAct} {H : AH} (h : ∀ x ∈ o.op.operands, opd a x = opd b x) : evalOp E cp cr st o a H = evalOp E cp cr st o b H := by
  obtain ⟨dst, op, type, pos, after, guard⟩ := o
  cases op <;> simp only [Op.operands] at h <;> simp only [evalOp]
  case build t ps => rw [partsOf_congr fun p hp => h p.2 (by simp; exact ⟨p.1, by simpa using hp⟩)]
  case buildSlice t n ps => rw [partsOf_congr fun p hp => h p.2 (by simp; exact ⟨p.1, by simpa using hp⟩)]
  case makeFunc fn first captured => rw [opds_congr fun x hx => h x (by simp at hx; simp [hx]), opds_congr (l := captured.toList) fun x hx => h x (by simp at hx; simp [hx])]
  case slice t x lo hi mx =>
    cases mx with
    | some m => rfl
    | none =>
      dsimp only
      rw [h x (by simp), opdB_congr (x := lo) fun y hy => h y (by simp [hy]), opdB_congr (x := hi) fun y hy => h y (by simp [hy])]
  case call c =>
    rw [opds_congr fun x hx => h x (by simp at hx; simp [Call.operands, hx])]
    cases hc : c.callee with
    | value f => simp only [h f (by simp [Call.operands, hc])]
    | invoke r m => rfl
    | builtin bi => cases bi <;> rfl
  case makeMap t r => cases r <;> rfl
  case lookup t m k ok => rw [h m (by simp), h k (by simp)]
  case mapUpdate t m k v => rw [h m (by simp), h k (by simp), h v (by simp)]
  case insert t m k v => rw [h m (by simp), h k (by simp), h v (by simp)]
  case makeSlice t l c => rw [opdI_congr (h l (by simp)), opdI_congr (h c (by simp))]
  case indexAddr t x i => rw [h x (by simp), opdI_congr (h i (by simp))]
  case index t x i => rw [h x (by simp), opdI_congr (h i (by simp))]
  all_goals (first | rfl | (simp_all; done))

theorem opd_put {a : AAct} {d : Option Nat} {v : AV} {x : Operand} (h : ∀ t, d = some t → x ≠ .tmp t) : opd (putO a d v) x = opd a x := by
  cases d with
  | none => rfl
  | some t =>
    cases x with
    | tmp u =>
      have : u ≠ t := fun e => h t rfl (by rw [e])
      simp only [opd, putO, put_ne _ _ _ _ this]
    | _ => rfl
theorem looks_opd {ops : Array Oper} {o : Oper} {a : AAct} {d : Option Nat} {v : AV} (h : ∀ t, d = some t → t ∉ o.looksAt ops) : ∀ x ∈ o.op.operands, opd (putO a d v) x = opd a x := fun x hx =>
  opd_put fun t ht e => h t ht (by
    subst e
    exact List.mem_append_left _ (List.mem_filterMap.2 ⟨.tmp t, by simpa using hx, rfl⟩))
theorem looks_wanted {ops : Array Oper} {o : Oper} {a : AAct} {d : Option Nat} {v : AV} (h : ∀ t, d = some t → t ∉ o.looksAt ops) : wantedA ops (putO a d v) o = wantedA ops a o := by
  cases d with
  | none => rfl
  | some t =>
    unfold wantedA
    cases hg : o.guard with
    | none => rfl
    | some gw =>
      obtain ⟨g, want⟩ := gw
      have : yieldedA ops (putO a (some t) v) g = yieldedA ops a g := by
        unfold yieldedA
        cases ht : (ops[g]?).bind (·.dst) with
        | none => rfl
        | some u =>
          have hne : u ≠ t := fun e => h t rfl (by subst e; simp [Oper.looksAt, hg, ht])
          simp only [putO, put_ne _ _ _ _ hne]
      dsimp only
      rw [this]

theorem foot_congr {E : Env} {st : Nat} {ops : Array Oper} {o : Oper} {a b : AAct} {H : AH} (hw : wantedA ops a o = wantedA ops b o) (h : ∀ x ∈ o.op.operands, opd a x = opd b x) : foot E st ops o a H = foot E st ops o b H := by
  have fm : ∀ {l : List Operand}, (∀ x ∈ l, opd a x = opd b x) → l.filterMap (opd a) = l.filterMap (opd b) := fun {l} hl => by
    induction l with
    | nil => rfl
    | cons x l ih =>
      simp only [List.filterMap_cons, hl x (List.mem_cons_self ..)]
      rw [ih (fun y hy => hl y (List.mem_cons_of_mem _ hy))]
  have fl : ∀ {l : List Operand}, (∀ x ∈ l, opd a x = opd b x) → l.flatMap (fun x => tagO (opd a x)) = l.flatMap (fun x => tagO (opd b x)) := fun {l} hl => by
    induction l with
    | nil => rfl
    | cons x l ih =>
      simp only [List.flatMap_cons, hl x (List.mem_cons_self ..)]
      rw [ih (fun y hy => hl y (List.mem_cons_of_mem _ hy))]
  unfold foot
  rw [hw]
  split
  · rename_i hgo
    clear hgo hw
    obtain ⟨dst, op, type, pos, after, guard⟩ := o
    cases op <;> simp only [Op.operands] at h <;> dsimp only
    case call c =>
      have hargs : ∀ x ∈ c.args.toList, opd a x = opd b x := fun x hx => h x (by simp at hx; simp [Call.operands, hx])
      have at_ : ∀ i : Nat, (c.args.toList[i]?).bind (opd a) = (c.args.toList[i]?).bind (opd b) := fun i => by
        cases hx : c.args.toList[i]? with
        | none => rfl
        | some x => simp only [Option.bind_some]; exact hargs x (List.mem_of_getElem? hx)
      rw [fm hargs, fl hargs, at_ 0, at_ 1]
      cases hc : c.callee with
      | value f => simp only [h f (by simp [Call.operands, hc])]
      | invoke r m => rfl
      | builtin bi => cases bi <;> rfl
    all_goals (first | rfl | (simp_all; done))
  · rfl

/-! ### heaps that agree -/
def Same (ts : List Tag) (o o' : Tag → Option AObj) : Prop := ∀ t ∈ ts, o' t = o t
theorem Same.left {ts us : List Tag} {o o' : Tag → Option AObj} (h : Same (ts ++ us) o o') : Same ts o o' := fun t ht => h t (List.mem_append_left _ ht)
theorem Same.right {ts us : List Tag} {o o' : Tag → Option AObj} (h : Same (ts ++ us) o o') : Same us o o' := fun t ht => h t (List.mem_append_right _ ht)
theorem aRow_same {o o' : Tag → Option AObj} {k g : Tag} (h : o' k = o k) : aRow o' k g = aRow o k g := by simp only [aRow, h]
theorem cells_same {o o' : Tag → Option AObj} {x : AV} (h : Same (tagOf x) o o') : sliceCells o' x = sliceCells o x := by
  unfold sliceCells
  cases x with
  | ref k g off n => simp only [aRow_same (g := g) (h k (by simp [tagOf]))]
  | _ => rfl
theorem src_same {o o' : Tag → Option AObj} {x : AV} (h : Same (tagOf x) o o') : srcOf o' x = srcOf o x := by
  unfold srcOf
  cases x with
  | str s => rfl
  | _ => exact cells_same h
theorem load_same {P : Program} {t : TypeId} {x : AV} {H H' : AH} (h : Same (tagOf x) H.o H'.o) : aLoad P t x H' = aLoad P t x H := by
  unfold aLoad
  cases x with
  | ptr k g off => simp only [aRow_same (g := g) (h k (by simp [tagOf]))]
  | _ => rfl
theorem tags_same {o o' : Tag → Option AObj} : ∀ (d : Nat) (x : AV), Same (viewTags o d x) o o' → viewTags o' d x = viewTags o d x ∧ view o' d x = view o d x
  | 0, x, _ => ⟨rfl, rfl⟩
  | d + 1, x, h => by
    have list : ∀ (l : List AV), Same (l.flatMap (viewTags o d)) o o' → l.flatMap (viewTags o' d) = l.flatMap (viewTags o d) ∧ l.map (view o' d) = l.map (view o d) := fun l => by
      induction l with
      | nil => exact fun _ => ⟨rfl, rfl⟩
      | cons y l ih =>
        intro hl
        simp only [List.flatMap_cons] at hl
        obtain ⟨i1, i2⟩ := tags_same d y hl.left
        obtain ⟨j1, j2⟩ := ih hl.right
        simp only [List.flatMap_cons, List.map_cons, i1, i2, j1, j2, and_self]
    cases x with
    | agg cs => obtain ⟨i1, i2⟩ := list cs h; simp only [viewTags, view, i1, i2, and_self]
    | tup cs => obtain ⟨i1, i2⟩ := list cs h; simp only [viewTags, view, i1, i2, and_self]
    | fn f fs cs =>
      simp only [viewTags] at h
      obtain ⟨i1, i2⟩ := list fs h.left
      obtain ⟨j1, j2⟩ := list cs h.right
      simp only [viewTags, view, i1, i2, j1, j2, and_self]
    | ref k g off n =>
      have hk : o' k = o k := by
        refine h k ?_
        simp only [viewTags]
        split <;> simp
      simp only [viewTags, view, aRow_same (g := g) hk]
      cases hr : aRow o k g with
      | none => exact ⟨rfl, rfl⟩
      | some r =>
        simp only [viewTags, hr] at h
        obtain ⟨i1, i2⟩ := list _ (fun t ht => h t (List.mem_cons_of_mem _ ht))
        dsimp only
        rw [i1, i2]
        exact ⟨rfl, rfl⟩
    | ptr k g off =>
      have hk : o' k = o k := by
        refine h k ?_
        simp only [viewTags]
        split <;> simp
      simp only [viewTags, view, aRow_same (g := g) hk]
      cases hr : aRow o k g with
      | none => exact ⟨rfl, rfl⟩
      | some r =>
        simp only [viewTags, hr] at h
        obtain ⟨i1, i2⟩ := list _ (fun t ht => h t (List.mem_cons_of_mem _ ht))
        dsimp only
        rw [i1, i2]
        exact ⟨rfl, rfl⟩
    | _ => exact ⟨rfl, rfl⟩
theorem views_same {o o' : Tag → Option AObj} (d : Nat) : ∀ (l : List AV), Same (l.flatMap (viewTags o d)) o o' → l.flatMap (viewTags o' d) = l.flatMap (viewTags o d) ∧ l.map (view o' d) = l.map (view o d)
  | [], _ => ⟨rfl, rfl⟩
  | y :: l, hl => by
    simp only [List.flatMap_cons] at hl
    obtain ⟨i1, i2⟩ := tags_same d y hl.left
    obtain ⟨j1, j2⟩ := views_same d l hl.right
    simp only [List.flatMap_cons, List.map_cons, i1, i2, j1, j2, and_self]

/-! ### what an operation lays over the heap -/
def over (D : Tag → Option AObj) (H : AH) : AH := { H with o := fun t => match D t with | some x => some x | none => H.o t }
theorem over_none (H : AH) : over (fun _ => none) H = H := rfl
theorem over_row (H : AH) (t : Tag) (x : AObj) : ({ H with o := upd H.o t x } : AH) = over (upd (fun _ => none) t x) H := by
  simp only [over, AH.mk.injEq, and_true]
  funext u
  unfold upd
  by_cases e : u = t
  · simp only [e, if_true]
  · simp only [e, if_false]
/-- Only its footprint is asked, only its footprint is written. -/
structure Local (ev : AH → Option (AV × AH)) (ft : AH → FP) (H : AH) (v : AV) (H' : AH) (D : Tag → Option AObj) : Prop where
  w : ∀ t x, D t = some x → t ∈ (ft H).w
  out : H' = over D H
  same : ∀ H2 : AH, Same ((ft H).r ++ (ft H).w) H.o H2.o → ev H2 = some (v, over D H2) ∧ ft H2 = ft H

/-- The footprint of what is to be done. -/
theorem foot_go {E : Env} {st : Nat} {ops : Array Oper} {o : Oper} {a : AAct} (hw : wantedA ops a o = some true) (H : AH) : foot E st ops o a H =
    (let own : List Tag := match o.dst with | some d => [(st, d)] | none => []
    match o.op with
    | .load _ x => ⟨tagO (opd a x), [], false⟩
    | .store _ p _ => ⟨[], tagO (opd a p), false⟩
    | .alloc _ => ⟨[], own, false⟩
    | .box _ _ => ⟨[], own, false⟩
    | .buildSlice _ _ _ => ⟨[], own, false⟩
    | .makeSlice _ _ _ => ⟨[], own, false⟩
    | .makeMap _ _ => ⟨[], own, false⟩
    | .convert _ _ x => ⟨tagO (opd a x), own, false⟩
    | .lookup _ m _ _ => ⟨tagO (opd a m), [], false⟩
    | .mapUpdate _ m _ _ => ⟨[], tagO (opd a m), false⟩
    | .insert _ m _ _ => ⟨[], tagO (opd a m), false⟩
    | .call c =>
      let args := c.args.toList
      match c.callee with
      | .builtin .append => ⟨tagO (args[1]?.bind (opd a)), own ++ tagO (args[0]?.bind (opd a)), false⟩
      | .builtin .copy => ⟨tagO (args[1]?.bind (opd a)), tagO (args[0]?.bind (opd a)), false⟩
      | .builtin _ => ⟨args.flatMap fun x => tagO (opd a x), [], false⟩
      | .value f =>
        match opd a f with
        | some (.fn (.func g) first captured) =>
          let ts := (first ++ (args.filterMap (opd a)) ++ captured).flatMap (viewTags H.o vDepth)
          match E.mode g with
          | .pure true => ⟨ts, [], false⟩
          | .ext true => ⟨ts, [], false⟩
          | .pure false => ⟨ts, ts, false⟩
          | .ext false => ⟨ts, ts, false⟩
          | .raw z => ⟨[], rawW z g H.nx, true⟩
        | _ => ⟨[], [], true⟩
      | _ => ⟨[], [], true⟩
    | _ => FP.none_) := by
  unfold foot
  rw [if_pos hw]
  rfl

section
variable {E : Env} {cp : CallP} {cr : CallR} {st : Nat} {ops : Array Oper} {o : Oper} {a : AAct} {H H' : AH} {v : AV}

/-- An operation that hands the heap on as it is, and asks it nothing. -/
theorem local_flat (hw : wantedA ops a o = some true) (hf : ∀ H2, foot E st ops o a H2 = FP.none_) {x : Option AV} (he : ∀ H2, evalOp E cp cr st o a H2 = x.map (·, H2)) (h : evalOp E cp cr st o a H = some (v, H')) :
    ∃ D, Local (evalOp E cp cr st o a) (foot E st ops o a) H v H' D := by
  rw [he] at h
  replace h := mapH h
  obtain ⟨hx, rfl⟩ := h
  subst hx
  exact ⟨fun _ => none, { w := fun t x h => (by cases h), out := rfl, same := fun H2 _ => ⟨by rw [he]; rfl, by rw [hf, hf]⟩ }⟩
/-- An operation that makes one thing, of its operands alone. -/
theorem local_make {d : Nat} (hd : o.dst = some d) (hf : ∀ H2, foot E st ops o a H2 = ⟨[], [(st, d)], false⟩) {x : Option (AV × AObj)} (he : ∀ H2, evalOp E cp cr st o a H2 = x.map fun p => (p.1, { H2 with o := upd H2.o (st, d) p.2 })) (h : evalOp E cp cr st o a H = some (v, H')) :
    ∃ D, Local (evalOp E cp cr st o a) (foot E st ops o a) H v H' D := by
  rw [he] at h
  cases x with
  | none => cases h
  | some p =>
    simp only [Option.map_some] at h
    injection h with h
    injection h with h1 h2
    subst h1; subst h2
    refine ⟨upd (fun _ => none) (st, d) p.2, { w := fun t x ht => ?_, out := over_row .., same := fun H2 _ => ⟨by rw [he, Option.map_some, over_row], by rw [hf, hf]⟩ }⟩
    rw [hf]
    unfold upd at ht
    split at ht
    · rename_i e; simp [e]
    · cases ht
end

end Go.Proofs.YtpmjpogcaglphaaDoor.A
/- A, part 16: every operation keeps to its footprint. -/
namespace Go.Proofs.YtpmjpogcaglphaaDoor.A
open Go

section
variable {E : Env} {cp : CallP} {cr : CallR} {st : Nat} {ops : Array Oper} {o : Oper} {a : AAct} {H H' : AH} {v : AV}

theorem opds_filter {a : AAct} : ∀ {l : List Operand} {vs : List AV}, opds a l = some vs → l.filterMap (opd a) = vs
  | [], vs, h => by simp only [opds] at h; injection h
  | x :: l, vs, h => by
    simp only [opds] at h
    split at h
    · rename_i v vs' hv hvs
      injection h with h; subst h
      rw [List.filterMap_cons, hv, opds_filter hvs]
    · cases h
theorem opds_at {a : AAct} : ∀ {l : List Operand} {vs : List AV}, opds a l = some vs → ∀ i : Nat, (l[i]?).bind (opd a) = vs[i]?
  | [], vs, h, i => by simp only [opds] at h; injection h with h; subst h; simp
  | x :: l, vs, h, i => by
    simp only [opds] at h
    split at h
    · rename_i v vs' hv hvs
      injection h with h; subst h
      cases i with
      | zero => simp [hv]
      | succ i => simpa using opds_at hvs i
    · cases h

theorem store_local {P : Program} {t : TypeId} {p x : AV} {H' : AH} (h : aStore P t p x H = some H') : ∃ D, (∀ u y, D u = some y → u ∈ tagOf p) ∧ H' = over D H ∧ ∀ H2 : AH, Same (tagOf p) H.o H2.o → aStore P t p x H2 = some (over D H2) := by
  unfold aStore at h
  split at h
  · rename_i k g off n hn
    split at h
    · rename_i r hr
      split at h
      · rename_i hc
        injection h with h; subst h
        refine ⟨upd (fun _ => none) k (.row { r with cs := splice r.cs off x.cells }), fun u y hu => ?_, over_row .., fun H2 hs => ?_⟩
        · unfold upd at hu
          split at hu
          · rename_i e; simp [tagOf, e]
          · cases hu
        · simp only [aStore, hn, aRow_same (g := g) (hs k (by simp [tagOf])), hr]
          rw [if_pos hc, ← over_row]
          rfl
      · cases h
    · cases h
  · cases h

theorem append_local {P : Program} {tg : Tag} {t xt : TypeId} {s x : AV} {H' : AH} (h : aAppend P tg t xt s x H = some (v, H')) :
    ∃ D, (∀ u y, D u = some y → u ∈ tg :: tagOf s) ∧ H' = over D H ∧ ∀ H2 : AH, Same (tagOf x ++ (tg :: tagOf s)) H.o H2.o → aAppend P tg t xt s x H2 = some (v, over D H2) := by
  unfold aAppend at h
  split at h
  · cases h
  · rename_i e he
    split at h
    · rename_i sz by_ z m new h1 h2 h3 hsrc
      split at h
      · cases h
      · rename_i hc
        split at h
        · split at h
          · rename_i h0
            injection h with h; injection h with g1 g2
            subst g1; subst g2
            refine ⟨fun _ => none, fun u y hu => (by cases hu), rfl, fun H2 hs => ?_⟩
            simp only [aAppend, he, h1, h2, h3, src_same hs.left, hsrc, if_neg hc]
            simp only [h0, if_true]
            rfl
          · rename_i h0
            split at h
            · rename_i h4
              injection h with h; injection h with g1 g2
              subst g1; subst g2
              refine ⟨upd (fun _ => none) tg _, fun u y hu => ?_, over_row .., fun H2 hs => ?_⟩
              · unfold upd at hu
                split at hu
                · rename_i e; simp [e]
                · cases hu
              · simp only [aAppend, he, h1, h2, h3, src_same hs.left, hsrc, if_neg hc]
                simp only [h0, if_false, h4, if_true]
                rw [← over_row]
                rfl
            · cases h
        · rename_i k g n
          split at h
          · rename_i r hr
            split at h
            · rename_i h4
              injection h with h; injection h with g1 g2
              subst g1; subst g2
              refine ⟨upd (fun _ => none) k _, fun u y hu => ?_, over_row .., fun H2 hs => ?_⟩
              · unfold upd at hu
                split at hu
                · rename_i e; simp [tagOf, e]
                · cases hu
              · simp only [aAppend, he, h1, h2, h3, src_same hs.left, hsrc, if_neg hc]
                simp only [aRow_same (g := g) (hs k (by simp [tagOf])), hr]
                rw [if_pos h4, ← over_row]
                rfl
            · cases h
          · cases h
        · cases h
    · cases h

theorem copy_local {P : Program} {t : TypeId} {d x : AV} {H' : AH} (h : aCopy P t d x H = some (v, H')) :
    ∃ D, (∀ u y, D u = some y → u ∈ tagOf d) ∧ H' = over D H ∧ ∀ H2 : AH, Same (tagOf x ++ tagOf d) H.o H2.o → aCopy P t d x H2 = some (v, over D H2) := by
  unfold aCopy at h
  split at h
  · rename_i sz m new h1 hsrc
    split at h
    · rename_i k g off n
      split at h
      · rename_i r hr
        dsimp only at h
        split at h
        · rename_i h4
          injection h with h; injection h with g1 g2
          subst g1; subst g2
          refine ⟨upd (fun _ => none) k _, fun u y hu => ?_, over_row .., fun H2 hs => ?_⟩
          · unfold upd at hu
            split at hu
            · rename_i e; simp [tagOf, e]
            · cases hu
          · unfold aCopy
            simp only [h1, src_same hs.left, hsrc, aRow_same (g := g) (hs k (by simp [tagOf])), hr]
            rw [if_pos h4, ← over_row]
            rfl
        · cases h
      · cases h
    · split at h
      · rename_i h4
        injection h with h; injection h with g1 g2
        subst g1; subst g2
        refine ⟨fun _ => none, fun u y hu => (by cases hu), rfl, fun H2 hs => ?_⟩
        unfold aCopy
        simp only [h1, src_same hs.left, hsrc, h4, if_true]
        rfl
      · cases h
    · cases h
  · cases h

theorem mapAt_same {m : AV} {o o2 : Tag → Option AObj} (hs : Same (tagOf m) o o2) : mapAt o2 m = mapAt o m := by
  cases m with
  | mp k => simp only [mapAt, hs k (by simp [tagOf])]
  | _ => rfl
theorem lookup_same {P : Program} {t : TypeId} {m k : AV} {ok : Bool} {H2 : AH} (hs : Same (tagOf m) H.o H2.o) : aLookup P t m k ok H2 = aLookup P t m k ok H := by
  unfold aLookup
  rw [mapAt_same hs]
theorem len_same {P : Program} {t : TypeId} {x : AV} {o o2 : Tag → Option AObj} (hs : Same (tagOf x) o o2) : aLen P o2 t x = aLen P o t x := by
  have hm := mapAt_same hs
  unfold aLen
  split <;> first | rfl | (rw [hm])
theorem update_local {P : Program} {t : TypeId} {m k x : AV} {H' : AH} (h : aMapUpdate P t m k x H = some H') : ∃ D, (∀ u y, D u = some y → u ∈ tagOf m) ∧ H' = over D H ∧ ∀ H2 : AH, Same (tagOf m) H.o H2.o → aMapUpdate P t m k x H2 = some (over D H2) := by
  unfold aMapUpdate at h
  split at h
  · rename_i kt et tg hu
    split at h
    · rename_i hok
      split at h
      · rename_i es he
        split at h
        · rename_i r hf
          injection h with h; subst h
          refine ⟨upd (fun _ => none) tg (.map (putA k x es)), fun u y hu => ?_, over_row .., fun H2 hs => ?_⟩
          · unfold upd at hu
            split at hu
            · rename_i e; simp [tagOf, e]
            · cases hu
          · have he2 : H2.o tg = some (.map es) := (hs tg (by simp [tagOf])).trans he
            simp only [aMapUpdate, hu, hok, if_true, he2, hf]
            rw [← over_row]
        · cases h
      · cases h
    · cases h
  · cases h
theorem convert_bytes {P : Program} {tg : Tag} {s t e : TypeId} {x : AV} {n : Nat} {cs : List AV} {bs : List UInt8} (h1 : P.underlying s = some (.slice e)) (h2 : P.underlying t = some .string) (he : P.underlying e = some (.int .u8)) (hc : sliceCells H.o x = some (n, cs))
    (hl : cs.length = n) (hb : aBytes cs = some bs) : aConvert P tg s t x H = some (.str bs, H) := by
  cases x with
  | str q => cases hc
  | _ => simp only [aConvert, h1, h2, he, hc, hl, if_true, hb]; rfl

theorem convert_local {P : Program} {tg : Tag} {s t : TypeId} {x : AV} {H' : AH} (h : aConvert P tg s t x H = some (v, H')) :
    ∃ D, (∀ u y, D u = some y → u ∈ [tg]) ∧ H' = over D H ∧ ∀ H2 : AH, Same (tagOf x) H.o H2.o → aConvert P tg s t x H2 = some (v, over D H2) := by
  unfold aConvert at h
  split at h
  · rename_i k k' n h1 h2
    injection h with h; injection h with g1 g2
    subst g1; subst g2
    exact ⟨fun _ => none, fun u y hu => (by cases hu), rfl, fun H2 hs => by unfold aConvert; simp only [h1, h2]; rfl⟩
  · rename_i n h1 h2
    injection h with h; injection h with g1 g2
    subst g1; subst g2
    exact ⟨fun _ => none, fun u y hu => (by cases hu), rfl, fun H2 hs => by unfold aConvert; simp only [h1, h2]; rfl⟩
  · rename_i e sx h1 h2
    split at h
    · rename_i he
      injection h with h; injection h with g1 g2
      subst g1; subst g2
      refine ⟨upd (fun _ => none) tg _, fun u y hu => ?_, over_row .., fun H2 hs => ?_⟩
      · unfold upd at hu
        split at hu
        · rename_i e; simp [e]
        · cases hu
      · unfold aConvert
        simp only [h1, h2, he]
        rw [← over_row]
        rfl
    · cases h
  · rename_i e h1 h2 hx
    split at h
    · rename_i he
      split at h
      · rename_i n cs hcs
        split at h
        · rename_i hl
          cases hb : aBytes cs with
          | none => rw [hb] at h; cases h
          | some bs =>
            rw [hb] at h
            injection h with h; injection h with g1 g2
            subst g1; subst g2
            refine ⟨fun _ => none, fun u y hu => (by cases hu), rfl, fun H2 hs => ?_⟩
            have hc2 := cells_same hs
            rw [hcs] at hc2
            exact convert_bytes h1 h2 he hc2 hl hb
        · cases h
      · cases h
    · cases h
  · cases h

theorem free_local {sc : Bool} {as_ : List AV} {r : AV} (h : freezeP sc as_ r H = some (v, H')) : ∃ D, (∀ u y, D u = some y → sc = false ∧ u ∈ as_.flatMap (viewTags H.o vDepth)) ∧ H' = over D H ∧ ∀ H2 : AH, Same (as_.flatMap (viewTags H.o vDepth)) H.o H2.o → freezeP sc as_ r H2 = some (v, over D H2) := by
  unfold freezeP at h
  split at h
  · split at h
    · rename_i hf
      injection h with h; injection h with g1 g2
      subst g1; subst g2
      exact ⟨fun _ => none, fun u y hu => (by cases hu), rfl, fun H2 hs => by simp only [freezeP, hf, if_true]; rfl⟩
    · cases h
  · injection h with h; injection h with g1 g2
    subst g1; subst g2
    have hseal : ∀ o : Tag → Option AObj, Same (as_.flatMap (viewTags H.o vDepth)) H.o o → sealed (as_.flatMap (viewTags H.o vDepth)) o = fun t => match (if (as_.flatMap (viewTags H.o vDepth)).contains t then (match H.o t with | some (.row r) => some (AObj.row { r with ro := true }) | _ => none) else none) with | some x => some x | none => o t := fun o ho => by
      funext t
      unfold sealed
      by_cases hc : (as_.flatMap (viewTags H.o vDepth)).contains t = true
      · rw [if_pos hc, ← ho t (by simpa using hc)]
        cases hr : o t with
        | none => rfl
        | some x =>
          cases x with
          | row r => simp only [hc, if_true]
          | map es => rfl
      · rw [if_neg hc]
        cases hr : o t with
        | none => rfl
        | some x =>
          cases x with
          | row r => simp only [hc, if_false]; rfl
          | map es => rfl
    refine ⟨fun t => if (as_.flatMap (viewTags H.o vDepth)).contains t then (match H.o t with | some (.row r) => some (AObj.row { r with ro := true }) | _ => none) else none, fun u y hu => ⟨rfl, ?_⟩, ?_, fun H2 hs => ?_⟩
    · dsimp only at hu
      split at hu
      · rename_i hc; simpa using hc
      · cases hu
    · simp only [over, AH.mk.injEq, and_true]
      exact hseal H.o (fun _ _ => rfl)
    · have := (views_same vDepth as_ hs).1
      simp only [freezeP, this, over, Option.some.injEq, Prod.mk.injEq, AH.mk.injEq, and_true, true_and]
      exact hseal H2.o hs

theorem evalOp_local (hw : wantedA ops a o = some true) (hall : (foot E st ops o a H).all = false) (h : evalOp E cp cr st o a H = some (v, H')) : ∃ D, Local (evalOp E cp cr st o a) (foot E st ops o a) H v H' D := by
  have flat : ∀ {x : Option AV}, (∀ H2, foot E st ops o a H2 = FP.none_) → (∀ H2, evalOp E cp cr st o a H2 = x.map (·, H2)) → ∃ D, Local (evalOp E cp cr st o a) (foot E st ops o a) H v H' D := fun hf he => local_flat hw hf he h
  have hft := foot_go (E := E) (st := st) hw
  have h' := h
  unfold evalOp at h'
  split at h'
  · rename_i x ho
    exact flat (x := opd a x) (fun H2 => by rw [hft]; simp only [ho]) (fun H2 => by simp only [evalOp, ho])
  · rename_i x ho
    exact flat (x := opd a x) (fun H2 => by rw [hft]; simp only [ho]) (fun H2 => by simp only [evalOp, ho])
  · rename_i c x y ho
    refine flat (x := match opd a c with | some (.bool true) => opd a x | some (.bool false) => opd a y | _ => none) (fun H2 => by rw [hft]; simp only [ho]) (fun H2 => ?_)
    simp only [evalOp, ho]
    rcases opd a c with _ | v
    · rfl
    · cases v with
      | bool b => cases b <;> rfl
      | _ => rfl
  · rename_i e ho
    split at h'
    · rename_i d z hd hz
      exact local_make hd (fun H2 => by rw [hft]; simp only [ho, hd]) (x := some (.ptr (st, d) (st, d) 0, .row { elem := e, sz := 1, gen := (st, d), ro := false, plain := true, cs := z })) (fun H2 => by simp only [evalOp, ho, hd, hz, Option.map_some]; rfl) h
    · cases h'
  · rename_i e x ho
    split at h'
    · rename_i d z hd hz
      split at h'
      · rename_i hc
        exact local_make hd (fun H2 => by rw [hft]; simp only [ho, hd]) (x := some (.ptr (st, d) (st, d) 0, .row { elem := e, sz := 1, gen := (st, d), ro := false, plain := true, cs := z.cells })) (fun H2 => by simp only [evalOp, ho, hd, hz, hc, if_true, Option.map_some]; rfl) h
      · cases h'
    · cases h'
  · rename_i t parts ho
    refine flat (x := (partsOf a parts.toList).bind fun ps => aBuild E.P t ps) (fun H2 => by rw [hft]; simp only [ho]) (fun H2 => ?_)
    simp only [evalOp, ho, Option.map_bind]
    rfl
  · rename_i t len parts ho
    replace h' := needD_some h'
    obtain ⟨d, hd, h'⟩ := h'
    refine local_make hd (fun H2 => by rw [hft]; simp only [ho, hd]) (x := (partsOf a parts.toList).bind fun ps => (tElem E.P t).bind fun e => match tSize E.P e, tZero E.P e with
      | some sz, some z => if len * sz ≤ 16777216 ∧ z.length = sz ∧ 0 < sz then (fillA (fun i => some (i * sz, sz)) (rep z len) ps).map fun cs => (.ref (st, d) (st, d) 0 len, .row { elem := e, sz, gen := (st, d), ro := false, plain := true, cs }) else none
      | _, _ => none) (fun H2 => ?_) h
    simp only [evalOp, ho, hd, needD]
    cases partsOf a parts.toList with
    | none => rfl
    | some ps =>
      simp only [Option.bind_some, aBuildSlice]
      cases tElem E.P t with
      | none => rfl
      | some e =>
        simp only [Option.bind_some]
        cases tSize E.P e with
        | none => rfl
        | some sz =>
          cases tZero E.P e with
          | none => rfl
          | some z =>
            dsimp only
            split
            · cases fillA (fun i => some (i * sz, sz)) (rep z len) ps with
              | none => rfl
              | some cs => rfl
            · rfl
  · rename_i t x ho
    replace h' := bind_some' h'
    obtain ⟨p, hp, h'⟩ := h'
    replace h' := mapH h'
    obtain ⟨hv, rfl⟩ := h'
    have hf : ∀ H2, foot E st ops o a H2 = ⟨tagOf p, [], false⟩ := fun H2 => by rw [hft]; simp only [ho, hp, tagO]
    refine ⟨fun _ => none, { w := fun t x h => (by cases h), out := rfl, same := fun H2 hs => ⟨?_, by rw [hf, hf]⟩ }⟩
    simp only [evalOp, ho, hp, Option.bind_some]
    rw [load_same (by simpa [hf] using hs), hv]
    rfl
  · rename_i t p x ho
    replace h' := bind_some' h'
    obtain ⟨pv, hp, h'⟩ := h'
    replace h' := bind_some' h'
    obtain ⟨xv, hx, h'⟩ := h'
    have hf : ∀ H2, foot E st ops o a H2 = ⟨[], tagOf pv, false⟩ := fun H2 => by rw [hft]; simp only [ho, hp, tagO]
    cases hs0 : aStore E.P t pv xv H with
    | none => rw [hs0] at h'; cases h'
    | some H1 =>
      rw [hs0] at h'
      simp only [Option.map_some] at h'
      injection h' with h'
      injection h' with g1 g2
      subst g1; subst g2
      obtain ⟨D, d1, d2, d3⟩ := store_local hs0
      refine ⟨D, { w := fun u y hu => (by rw [hf]; exact d1 u y hu), out := d2, same := fun H2 hs => ⟨?_, by rw [hf, hf]⟩ }⟩
      simp only [evalOp, ho, hp, hx, Option.bind_some]
      rw [d3 H2 (by simpa [hf] using hs)]
      rfl
  · rename_i x ho
    refine flat (x := match opd a x with
      | some (.ptr k g off) => some (.ptr k g off)
      | some (.fptr cs) => some (.fptr cs)
      | some (.fn (.func f) first captured) => some (.fn (.func f) first captured)
      | _ => none) (fun H2 => by rw [hft]; simp only [ho]) (fun H2 => ?_)
    simp only [evalOp, ho]
    rcases opd a x with _ | v
    · rfl
    · cases v with
      | fn f p q => cases f <;> rfl
      | _ => rfl
  · rename_i op t x y _ ho
    refine flat (x := (opd a x).bind fun u => (opd a y).bind fun v => aBin E.P op t u v) (fun H2 => by rw [hft]; simp only [ho]) (fun H2 => ?_)
    simp only [evalOp, ho]
    cases opd a x with
    | none => rfl
    | some u => cases opd a y <;> rfl
  · rename_i op t x ho
    refine flat (x := (opd a x).bind fun u => aUn op u) (fun H2 => by rw [hft]; simp only [ho]) (fun H2 => ?_)
    simp only [evalOp, ho, Option.map_bind]
    rfl
  · rename_i s t x ho
    replace h' := needD_some h'
    obtain ⟨d, hd, h'⟩ := h'
    replace h' := bind_some' h'
    obtain ⟨u, hu, h'⟩ := h'
    have hf : ∀ H2, foot E st ops o a H2 = ⟨tagOf u, [(st, d)], false⟩ := fun H2 => by rw [hft]; simp only [ho, hu, tagO, hd]
    obtain ⟨D, d1, d2, d3⟩ := convert_local h'
    refine ⟨D, { w := fun u y hu => (by rw [hf]; exact d1 u y hu), out := d2, same := fun H2 hs => ⟨?_, by rw [hf, hf]⟩ }⟩
    simp only [evalOp, ho, hd, hu, needD, Option.bind_some]
    exact d3 H2 (by rw [hf] at hs; exact hs.left)
  · rename_i fn first captured ho
    refine flat (x := match opds a first.toList, opds a captured.toList with
      | some f, some c => some (.fn fn f c)
      | _, _ => none) (fun H2 => by rw [hft]; simp only [ho]) (fun H2 => ?_)
    simp only [evalOp, ho]
    cases opds a first.toList with
    | none => rfl
    | some f => cases opds a captured.toList <;> rfl
  · rename_i ty ho
    split at h'
    · rename_i d hd
      exact local_make hd (fun H2 => by rw [hft]; simp only [ho, hd]) (x := some (.mp (st, d), .map [])) (fun H2 => by simp only [evalOp, ho, hd, Option.map_some]) h
    · cases h'
  · rename_i t l c ho
    replace h' := needD_some h'
    obtain ⟨d, hd, h'⟩ := h'
    refine local_make hd (fun H2 => by rw [hft]; simp only [ho, hd]) (x := (opdI a l).bind fun l => (opdI a c).bind fun c => (tElem E.P t).bind fun e => match tSize E.P e, tBytes E.P e, tZero E.P e with
      | some sz, some by_, some z => if 0 ≤ l ∧ l ≤ c ∧ c * by_ ≤ 140737488355328 ∧ c ≤ 140737488355328 ∧ z.length = sz ∧ 0 < sz then some (.ref (st, d) (st, d) 0 l.toNat, .row { elem := e, sz, gen := (st, d), ro := false, plain := true, cs := rep z l.toNat }) else none
      | _, _, _ => none) (fun H2 => ?_) h
    simp only [evalOp, ho, hd, needD]
    cases opdI a l with
    | none => rfl
    | some l =>
      cases opdI a c with
      | none => rfl
      | some c =>
        simp only [Option.bind_some, aMakeSlice]
        cases tElem E.P t with
        | none => rfl
        | some e =>
          simp only [Option.bind_some]
          cases tSize E.P e with
          | none => rfl
          | some sz =>
            cases tBytes E.P e with
            | none => rfl
            | some by_ =>
              cases tZero E.P e with
              | none => rfl
              | some z =>
                dsimp only
                split <;> rfl
  · rename_i t x lo hi ho
    refine flat (x := (opd a x).bind fun v => (opdB a lo).bind fun l => (opdB a hi).bind fun h => aSlice E.P t v l h) (fun H2 => by rw [hft]; simp only [ho]) (fun H2 => ?_)
    simp only [evalOp, ho]
    cases opd a x with
    | none => rfl
    | some u =>
      cases opdB a lo with
      | none => rfl
      | some l => cases opdB a hi <;> rfl
  · rename_i t x f ho
    refine flat (x := match opd a x, tField E.P t f with
      | some (.ptr k g off), some (o', ft) => if (tSize E.P ft).getD 0 = 0 then none else some (.ptr k g (off + o'))
      | some (.fptr cs), some (o', ft) => if (tSize E.P ft).getD 0 = 0 then none else some (.fptr (cs.drop o'))
      | _, _ => none) (fun H2 => by rw [hft]; simp only [ho]) (fun H2 => ?_)
    simp only [evalOp, ho]
    rcases opd a x with _ | v
    · rfl
    · rcases tField E.P t f with _ | ⟨o', ft⟩
      · cases v <;> rfl
      · cases v with
        | ptr k g off => dsimp only; split <;> rfl
        | fptr cs => dsimp only; split <;> rfl
        | _ => rfl
  · rename_i t x f ho
    refine flat (x := match opd a x, tField E.P t f with
      | some (.agg cs), some (o', ft) => takeT E.P ft (cs.drop o')
      | _, _ => none) (fun H2 => by rw [hft]; simp only [ho]) (fun H2 => ?_)
    simp only [evalOp, ho]
    rcases opd a x with _ | v
    · rfl
    · rcases tField E.P t f with _ | ⟨o', ft⟩
      · cases v <;> rfl
      · cases v <;> rfl
  · rename_i t x i ho
    refine flat (x := (opd a x).bind fun v => (opdI a i).bind fun j => aIndexAddr E.P t v j) (fun H2 => by rw [hft]; simp only [ho]) (fun H2 => ?_)
    simp only [evalOp, ho]
    cases opd a x with
    | none => rfl
    | some u => cases opdI a i <;> rfl
  · rename_i t x i ho
    refine flat (x := (opd a x).bind fun v => (opdI a i).bind fun j => aIndex E.P t v j) (fun H2 => by rw [hft]; simp only [ho]) (fun H2 => ?_)
    simp only [evalOp, ho]
    cases opd a x with
    | none => rfl
    | some u => cases opdI a i <;> rfl
  · rename_i t m k ok ho
    replace h' := bind_some' h'
    obtain ⟨mv, hm, h'⟩ := h'
    replace h' := bind_some' h'
    obtain ⟨kv, hk, h'⟩ := h'
    replace h' := mapH h'
    obtain ⟨hv, rfl⟩ := h'
    have hf : ∀ H2, foot E st ops o a H2 = ⟨tagOf mv, [], false⟩ := fun H2 => by rw [hft]; simp only [ho, hm, tagO]
    refine ⟨fun _ => none, { w := fun t x h => (by cases h), out := rfl, same := fun H2 hs => ⟨?_, by rw [hf, hf]⟩ }⟩
    simp only [evalOp, ho, hm, hk, Option.bind_some]
    rw [lookup_same (by simpa [hf] using hs), hv]
    rfl
  · rename_i t m k x ho
    replace h' := bind_some' h'
    obtain ⟨mv, hm, h'⟩ := h'
    replace h' := bind_some' h'
    obtain ⟨kv, hk, h'⟩ := h'
    replace h' := bind_some' h'
    obtain ⟨xv, hx, h'⟩ := h'
    have hf : ∀ H2, foot E st ops o a H2 = ⟨[], tagOf mv, false⟩ := fun H2 => by rw [hft]; simp only [ho, hm, tagO]
    cases hs0 : aMapUpdate E.P t mv kv xv H with
    | none => rw [hs0] at h'; cases h'
    | some H1 =>
      rw [hs0] at h'
      simp only [Option.map_some] at h'
      injection h' with h'
      injection h' with g1 g2
      subst g1; subst g2
      obtain ⟨D, d1, d2, d3⟩ := update_local hs0
      refine ⟨D, { w := fun u y hu => (by rw [hf]; exact d1 u y hu), out := d2, same := fun H2 hs => ⟨?_, by rw [hf, hf]⟩ }⟩
      simp only [evalOp, ho, hm, hk, hx, Option.bind_some]
      rw [d3 H2 (by simpa [hf] using hs)]
      rfl
  · rename_i t m k x ho
    replace h' := bind_some' h'
    obtain ⟨mv, hm, h'⟩ := h'
    replace h' := bind_some' h'
    obtain ⟨kv, hk, h'⟩ := h'
    replace h' := bind_some' h'
    obtain ⟨xv, hx, h'⟩ := h'
    have hf : ∀ H2, foot E st ops o a H2 = ⟨[], tagOf mv, false⟩ := fun H2 => by rw [hft]; simp only [ho, hm, tagO]
    cases hs0 : aMapUpdate E.P t mv kv xv H with
    | none => rw [hs0] at h'; cases h'
    | some H1 =>
      rw [hs0] at h'
      simp only [Option.map_some] at h'
      injection h' with h'
      injection h' with g1 g2
      subst g1; subst g2
      obtain ⟨D, d1, d2, d3⟩ := update_local hs0
      refine ⟨D, { w := fun u y hu => (by rw [hf]; exact d1 u y hu), out := d2, same := fun H2 hs => ⟨?_, by rw [hf, hf]⟩ }⟩
      simp only [evalOp, ho, hm, hk, hx, Option.bind_some]
      rw [d3 H2 (by simpa [hf] using hs)]
      rfl
  · rename_i t i ho
    refine flat (x := match opd a t with
      | some (.tup vs) => vs[i]?
      | _ => none) (fun H2 => by rw [hft]; simp only [ho]) (fun H2 => ?_)
    simp only [evalOp, ho]
    rcases opd a t with _ | v
    · rfl
    · cases v <;> rfl
  · rename_i cl ho
    replace h' := bind_some' h'
    obtain ⟨args, hargs, h'⟩ := h'
    split at h'
    · rename_i f hcal
      replace h' := bind_some' h'
      obtain ⟨fv, hfv, h'⟩ := h'
      unfold aCall at h'
      split at h'
      · rename_i g first captured
        dsimp only at h'
        have hf : ∀ H2, foot E st ops o a H2 = (match E.mode g with
          | .pure true => ⟨(first ++ args ++ captured).flatMap (viewTags H2.o vDepth), [], false⟩
          | .ext true => ⟨(first ++ args ++ captured).flatMap (viewTags H2.o vDepth), [], false⟩
          | .pure false => ⟨(first ++ args ++ captured).flatMap (viewTags H2.o vDepth), (first ++ args ++ captured).flatMap (viewTags H2.o vDepth), false⟩
          | .ext false => ⟨(first ++ args ++ captured).flatMap (viewTags H2.o vDepth), (first ++ args ++ captured).flatMap (viewTags H2.o vDepth), false⟩
          | .raw z => ⟨[], rawW z g H2.nx, true⟩) := fun H2 => by
            rw [hft]
            simp only [ho, hcal, hfv, opds_filter hargs]
            all_goals
              cases E.mode g with
              | pure b => cases b <;> rfl
              | ext b => cases b <;> rfl
              | raw b => rfl
        have pure : ∀ {cp' : CallP} {sc : Bool}, (∀ H2, foot E st ops o a H2 = ⟨(first ++ args ++ captured).flatMap (viewTags H2.o vDepth), if sc then [] else (first ++ args ++ captured).flatMap (viewTags H2.o vDepth), false⟩) →
            (∀ H2 : AH, evalOp E cp cr st o a H2 = (cp' g ((first ++ args ++ captured).map (view H2.o vDepth))).bind fun r => freezeP sc (first ++ args ++ captured) r H2) → ∃ D, Local (evalOp E cp cr st o a) (foot E st ops o a) H v H' D := fun {cp' sc} hf he => by
          rw [he] at h
          replace h := bind_some' h
          obtain ⟨r, hr, h⟩ := h
          obtain ⟨D, d1, d2, d3⟩ := free_local h
          refine ⟨D, { w := fun u y hu => ?_, out := d2, same := fun H2 hs => ?_ }⟩
          · obtain ⟨e, hm⟩ := d1 u y hu
            rw [hf, e]
            exact hm
          · rw [hf] at hs
            obtain ⟨j1, j2⟩ := views_same vDepth _ hs.left
            refine ⟨?_, ?_⟩
            · rw [he, j2, hr]
              exact d3 H2 hs.left
            · rw [hf, hf, j1]
        split at h'
        · rename_i sc hm
          refine pure (cp' := cp) (sc := sc) (fun H2 => ?_) (fun H2 => ?_)
          · rw [hf, hm]
            cases sc <;> rfl
          · simp only [evalOp, ho, hargs, hcal, hfv, Option.bind_some, aCall, hm]
        · rename_i sc hm
          refine pure (cp' := E.ext) (sc := sc) (fun H2 => ?_) (fun H2 => ?_)
          · rw [hf, hm]
            cases sc <;> rfl
          · simp only [evalOp, ho, hargs, hcal, hfv, Option.bind_some, aCall, hm]
        · rename_i frz hm
          rw [hf, hm] at hall
          cases hall
      · cases h'
    · rename_i hcal
      split at h'
      · rename_i x
        replace h' := mapH h'
        obtain ⟨hv, rfl⟩ := h'
        have hf : ∀ H2 H3, foot E st ops o a H2 = foot E st ops o a H3 := fun H2 H3 => by rw [hft, hft]; simp only [ho, hcal]
        have hx0 := opds_at hargs 0
        have hf2 : ∀ H2, foot E st ops o a H2 = ⟨tagOf x, [], false⟩ := fun H2 => by
          rw [hft]
          simp only [ho, hcal]
          cases hca : cl.args.toList with
          | nil => rw [hca] at hargs; cases hargs
          | cons y l =>
            rw [hca] at hargs hx0
            have hxl : l = [] := by
              cases l with
              | nil => rfl
              | cons z l =>
                simp only [opds] at hargs
                split at hargs
                · rename_i v1 v2 e1 e2
                  split at e2
                  · injection e2 with e2; rw [← e2] at hargs; simp at hargs
                  · cases e2
                · cases hargs
            subst hxl
            simp at hx0
            simp [hx0, tagO]
        refine ⟨fun _ => none, { w := fun t x h => (by cases h), out := rfl, same := fun H2 hs => ⟨?_, hf _ _⟩ }⟩
        rw [hf2] at hs
        simp only [evalOp, ho, hargs, hcal, Option.bind_some]
        rw [len_same (by simpa using hs), hv]
        rfl
      · cases h'
    · rename_i hcal
      split at h'
      · rename_i s x
        split at h'
        · rename_i h2
          replace h' := needD_some h'
          obtain ⟨d, hd, h'⟩ := h'
          have hf : ∀ H2, foot E st ops o a H2 = ⟨tagOf x, (st, d) :: tagOf s, false⟩ := fun H2 => by
            rw [hft]
            simp only [ho, hcal, opds_at hargs, hd]
            rfl
          obtain ⟨D, d1, d2, d3⟩ := append_local h'
          refine ⟨D, { w := fun u y hu => (by rw [hf]; exact d1 u y hu), out := d2, same := fun H2 hs => ⟨?_, by rw [hf, hf]⟩ }⟩
          simp only [evalOp, ho, hargs, hcal, Option.bind_some, h2, if_true, hd, needD]
          exact d3 H2 (by rw [hf] at hs; exact hs)
        · cases h'
      · cases h'
    · rename_i hcal
      split at h'
      · rename_i s x
        generalize hg : cl.argTypes.getD 0 0 = ty0 at h'
        split at h'
        · rename_i h2
          have hf : ∀ H2, foot E st ops o a H2 = ⟨tagOf x, tagOf s, false⟩ := fun H2 => by
            rw [hft]
            simp only [ho, hcal, opds_at hargs]
            rfl
          obtain ⟨D, d1, d2, d3⟩ := copy_local h'
          refine ⟨D, { w := fun u y hu => (by rw [hf]; exact d1 u y hu), out := d2, same := fun H2 hs => ⟨?_, by rw [hf, hf]⟩ }⟩
          simp only [evalOp, ho, hargs, hcal, Option.bind_some, hg]
          rw [if_pos h2]
          exact d3 H2 (by rw [hf] at hs; exact hs)
        · cases h'
      · cases h'
    · rename_i hcal
      replace h' := mapH h'
      obtain ⟨hv, rfl⟩ := h'
      have hf : ∀ H2 H3, foot E st ops o a H2 = foot E st ops o a H3 := fun H2 H3 => by rw [hft, hft]; simp only [ho, hcal]
      exact ⟨fun _ => none, { w := fun t x h => (by cases h), out := rfl, same := fun H2 hs => ⟨by simp only [evalOp, ho, hargs, hcal, Option.bind_some, hv]; rfl, hf _ _⟩ }⟩
    · rename_i hcal
      replace h' := mapH h'
      obtain ⟨hv, rfl⟩ := h'
      have hf : ∀ H2 H3, foot E st ops o a H2 = foot E st ops o a H3 := fun H2 H3 => by rw [hft, hft]; simp only [ho, hcal]
      exact ⟨fun _ => none, { w := fun t x h => (by cases h), out := rfl, same := fun H2 hs => ⟨by simp only [evalOp, ho, hargs, hcal, Option.bind_some, hv]; rfl, hf _ _⟩ }⟩
    · cases h'
  · cases h'
end

end Go.Proofs.YtpmjpogcaglphaaDoor.A
/- A, part 17: neighbours change places. -/
namespace Go.Proofs.YtpmjpogcaglphaaDoor.A
open Go

section
variable {E : Env} {cp : CallP} {cr : CallR} {st : Nat} {ops : Array Oper}

def stepV (E : Env) (cp : CallP) (cr : CallR) (st : Nat) (ops : Array Oper) (o : Oper) (a : AAct) (H : AH) : Option (AV × AH) :=
  match wantedA ops a o with
  | some true => evalOp E cp cr st o a H
  | some false => some (noV, H)
  | none => none
theorem step1_eq (o : Oper) (a : AAct) (H : AH) : step1 E cp cr st ops o a H = (stepV E cp cr st ops o a H).map fun p => (putO a o.dst p.1, p.2) := by
  unfold step1 stepV
  cases wantedA ops a o with
  | none => rfl
  | some b => cases b <;> rfl
theorem stepV_congr {o : Oper} {a : AAct} {H : AH} {d : Option Nat} {v : AV} (h : ∀ t, d = some t → t ∉ o.looksAt ops) : stepV E cp cr st ops o (putO a d v) H = stepV E cp cr st ops o a H ∧ foot E st ops o (putO a d v) H = foot E st ops o a H := by
  refine ⟨?_, foot_congr (looks_wanted h) (looks_opd h)⟩
  unfold stepV
  rw [looks_wanted h, evalOp_congr (looks_opd h)]
theorem stepV_local {o : Oper} {a : AAct} {H H' : AH} {v : AV} (hall : (foot E st ops o a H).all = false) (h : stepV E cp cr st ops o a H = some (v, H')) : ∃ D, Local (stepV E cp cr st ops o a) (foot E st ops o a) H v H' D := by
  unfold stepV at h
  split at h
  · rename_i hw
    obtain ⟨D, hD⟩ := evalOp_local hw hall h
    refine ⟨D, { w := hD.w, out := hD.out, same := fun H2 hs => ?_ }⟩
    have := hD.same H2 hs
    refine ⟨?_, this.2⟩
    unfold stepV
    rw [hw]
    exact this.1
  · rename_i hw
    injection h with h
    injection h with h1 h2
    subst h1; subst h2
    have hf : ∀ H2, foot E st ops o a H2 = FP.none_ := fun H2 => by
      unfold foot
      rw [if_neg (by rw [hw]; simp)]
    refine ⟨fun _ => none, { w := fun t x h => (by cases h), out := rfl, same := fun H2 _ => ⟨?_, by rw [hf, hf]⟩ }⟩
    unfold stepV
    rw [hw]
    rfl
  · cases h

theorem putO_comm (a : AAct) {x y : Option Nat} (v u : AV) (h : ∀ d, x = some d → y ≠ some d) : putO (putO a x v) y u = putO (putO a y u) x v := by
  cases x with
  | none => rfl
  | some d =>
    cases y with
    | none => rfl
    | some e =>
      have hne : d ≠ e := fun q => h d rfl (by rw [q])
      funext t
      simp only [putO, A.put]
      by_cases h1 : t = d
      · have h2 : ¬ t = e := fun q => hne (h1.symm.trans q)
        simp only [h1, if_true, if_neg hne]
      · simp only [if_neg h1]

theorem over_comm {D D' : Tag → Option AObj} (h : ∀ t x y, D t = some x → D' t = some y → False) (H : AH) : over D (over D' H) = over D' (over D H) := by
  simp only [over, AH.mk.injEq, and_true]
  funext t
  cases h1 : D t with
  | none => rfl
  | some x =>
    cases h2 : D' t with
    | none => rfl
    | some y => exact (h t x y h1 h2).elim

/-- A function that runs on the caller's memory takes new rows from its end; some leave all that lay before as it was. -/
def Up (cr : CallR) : Prop := ∀ g as_ H v H', cr g as_ H = some (v, H') → H.nx ≤ H'.nx ∧ (keeps g = true → ∀ t : Tag, t.1 < H.nx → H'.o t = H.o t)
theorem foot_keep (hU : Up cr) {o : Oper} {a : AAct} {H H' : AH} {v : AV} (ha : (foot E st ops o a H).all = true) (h : stepV E cp cr st ops o a H = some (v, H')) : ∀ t b : Tag, b ∈ (foot E st ops o a H).w → t.1 < b.1 → H'.o t = H.o t := by
  unfold stepV at h
  split at h
  · rename_i hw
    rw [foot_go hw] at ha ⊢
    cases ho : o.op <;> simp only [ho] at ha ⊢ <;> try (cases ha; done)
    rename_i c
    cases hc : c.callee with
    | builtin b => rw [hc] at ha; cases b <;> cases ha
    | invoke => intro t b hb; cases hb
    | value f =>
      simp only [hc] at ha ⊢
      cases hf : opd a f with
      | none => intro t b hb; cases hb
      | some x =>
        simp only [hf] at ha ⊢
        split
        · rename_i g first captured e
          injection e with e
          subst e
          dsimp only at ha ⊢
          cases hm : E.mode g with
          | pure b => rw [hm] at ha; cases b <;> cases ha
          | ext b => rw [hm] at ha; cases b <;> cases ha
          | raw z =>
            intro t b hb htb
            dsimp only at hb
            unfold rawW at hb
            split at hb
            · cases hb
            · rename_i hz
              split at hb
              · rename_i hk
                have hz' : z = false := by simpa using hz
                subst hz'
                rw [List.mem_singleton.1 hb] at htb
                unfold evalOp at h
                simp only [ho, hc, hf] at h
                obtain ⟨as_, _, h⟩ := bind_some' h
                simp only [Option.bind_some, aCall, hm] at h
                cases hs : cr g (first ++ as_ ++ captured) H with
                | none => rw [hs] at h; cases h
                | some p =>
                  rw [hs] at h
                  simp only [Option.map_some] at h
                  injection h with h
                  have e : p.2 = H' := by
                    have := congrArg Prod.snd h
                    exact this
                  rw [← e]
                  exact (hU _ _ _ _ _ hs).2 hk t htb
              · cases hb
        · intro t b hb; cases hb
  · rename_i hw
    unfold foot at ha
    rw [if_neg (by rw [hw]; simp)] at ha
    cases ha
  · cases h
theorem disj_parts {x y : FP} (hx : x.all = false) (hy : y.all = false) (h : disj x y = true) : (∀ t, t ∈ x.w → t ∉ y.r ∧ t ∉ y.w) ∧ (∀ t, t ∈ y.w → t ∉ x.r) := by
  unfold disj at h
  rw [hx, hy] at h
  simp only [Bool.false_eq_true, if_false, Bool.and_eq_true, List.all_eq_true, Bool.not_eq_true', List.contains_eq_mem, decide_eq_false_iff_not] at h
  exact ⟨fun t ht => h.1 t ht, fun t ht => h.2 t ht⟩

/-- Two operations that do not meet: either may come first. -/
theorem swap (hU : Up cr) {x y : Oper} {a : AAct} {H H1 H2 : AH} {vx vy : AV} (hap : x.apart ops y = true) (hx : stepV E cp cr st ops x a H = some (vx, H1)) (hy : stepV E cp cr st ops y (putO a x.dst vx) H1 = some (vy, H2))
    (hd : disj (foot E st ops x a H) (foot E st ops y (putO a x.dst vx) H1) = true) :
    ∃ H1', stepV E cp cr st ops y a H = some (vy, H1') ∧ foot E st ops y a H = foot E st ops y (putO a x.dst vx) H1 ∧ stepV E cp cr st ops x (putO a y.dst vy) H1' = some (vx, H2) ∧ foot E st ops x (putO a y.dst vy) H1' = foot E st ops x a H ∧
      putO (putO a y.dst vy) x.dst vx = putO (putO a x.dst vx) y.dst vy := by
  obtain ⟨p1, p2, p3⟩ := Oper.apart_spec hap
  have cy : ∀ H, _ := fun H => stepV_congr (E := E) (cp := cp) (cr := cr) (st := st) (ops := ops) (o := y) (a := a) (H := H) (d := x.dst) (v := vx) p1
  have cx : ∀ H, _ := fun H => stepV_congr (E := E) (cp := cp) (cr := cr) (st := st) (ops := ops) (o := x) (a := a) (H := H) (d := y.dst) (v := vy) p3
  rw [(cy H1).2] at hd ⊢
  rw [(cy H1).1] at hy
  have hput : putO (putO a y.dst vy) x.dst vx = putO (putO a x.dst vx) y.dst vy := (putO_comm a vx vy p2).symm
  by_cases ax : (foot E st ops x a H).all = true
  · -- x meets everything: y touches nothing
    have hyy : (foot E st ops y a H1).all = false ∧ (foot E st ops y a H1).w = [] ∧ ∀ t ∈ (foot E st ops y a H1).r, ∃ b ∈ (foot E st ops x a H).w, t.1 < b.1 := by
      unfold disj at hd
      rw [if_pos ax] at hd
      simp only [Bool.and_eq_true, Bool.not_eq_true', List.isEmpty_iff, List.all_eq_true, List.any_eq_true, below, decide_eq_true_eq] at hd
      exact hd
    obtain ⟨Dy, ly⟩ := stepV_local hyy.1 hy
    have hD : Dy = fun _ => none := by
      funext t
      cases ht : Dy t with
      | none => rfl
      | some z => have := ly.w t z ht; rw [hyy.2.1] at this; cases this
    subst hD
    obtain ⟨s1, s2⟩ := ly.same H (by
      rw [hyy.2.1, List.append_nil]
      intro t ht
      obtain ⟨b, hb, hlt⟩ := hyy.2.2 t ht
      exact (foot_keep hU ax hx t b hb hlt).symm)
    refine ⟨H, s1, s2, ?_, (cx H).2, hput⟩
    rw [(cx H).1, hx, ly.out]
    rfl
  · have ax' : (foot E st ops x a H).all = false := by simpa using ax
    obtain ⟨Dx, lx⟩ := stepV_local ax' hx
    by_cases ay : (foot E st ops y a H1).all = true
    · have hxx : (foot E st ops x a H).w = [] ∧ ∀ t ∈ (foot E st ops x a H).r, ∃ b ∈ (foot E st ops y a H1).w, t.1 < b.1 := by
        unfold disj at hd
        rw [if_neg ax, if_pos ay] at hd
        simp only [Bool.and_eq_true, List.isEmpty_iff, List.all_eq_true, List.any_eq_true, below, decide_eq_true_eq] at hd
        exact hd
      have hD : Dx = fun _ => none := by
        funext t
        cases ht : Dx t with
        | none => rfl
        | some z => have := lx.w t z ht; rw [hxx.1] at this; cases this
      subst hD
      have e1 : H1 = H := lx.out
      subst e1
      obtain ⟨s1, s2⟩ := lx.same H2 (by
        rw [hxx.1, List.append_nil]
        intro t ht
        obtain ⟨b, hb, hlt⟩ := hxx.2 t ht
        exact foot_keep hU ay hy t b hb hlt)
      refine ⟨H2, hy, rfl, ?_, ?_, hput⟩
      · rw [(cx H2).1, s1]
        rfl
      · rw [(cx H2).2, s2]
    · have ay' : (foot E st ops y a H1).all = false := by simpa using ay
      obtain ⟨Dy, ly⟩ := stepV_local ay' hy
      obtain ⟨q1, q2⟩ := disj_parts ax' ay' hd
      have sy : Same ((foot E st ops y a H1).r ++ (foot E st ops y a H1).w) H1.o H.o := fun t ht => by
        rw [lx.out]
        simp only [over]
        cases hD : Dx t with
        | none => rfl
        | some z =>
          obtain ⟨n1, n2⟩ := q1 t (lx.w t z hD)
          rcases List.mem_append.1 ht with h | h
          · exact absurd h n1
          · exact absurd h n2
      obtain ⟨s1, s2⟩ := ly.same H sy
      have sx : Same ((foot E st ops x a H).r ++ (foot E st ops x a H).w) H.o (over Dy H).o := fun t ht => by
        simp only [over]
        cases hD : Dy t with
        | none => rfl
        | some z =>
          have hm := ly.w t z hD
          rcases List.mem_append.1 ht with h | h
          · exact absurd h (q2 t hm)
          · exact absurd hm (q1 t h).2
      obtain ⟨t1, t2⟩ := lx.same (over Dy H) sx
      refine ⟨over Dy H, s1, s2, ?_, ?_, hput⟩
      · rw [(cx _).1, t1, ly.out, lx.out, over_comm]
        intro t u w h1 h2
        exact (q1 t (lx.w t u h1)).2 (ly.w t w h2)
      · rw [(cx _).2, t2]

/-- A run of the operations that a list names, each with its footprint. -/
def Runs (E : Env) (cp : CallP) (cr : CallR) (st : Nat) (ops : Array Oper) (F : Nat → FP) : List Nat → AAct → AH → AAct → AH → Prop
  | [], a, H, a', H' => a' = a ∧ H' = H
  | i :: l, a, H, a', H' => ∃ o v H1, ops[i]? = some o ∧ stepV E cp cr st ops o a H = some (v, H1) ∧ foot E st ops o a H = F i ∧ Runs E cp cr st ops F l (putO a o.dst v) H1 a' H'
def Free (ops : Array Oper) (F : Nat → FP) (i j : Nat) : Prop := ∀ x y, ops[i]? = some x → ops[j]? = some y → x.apart ops y = true ∧ disj (F i) (F j) = true

theorem bubble (hU : Up cr) {F : Nat → FP} {j : Nat} : ∀ {L1 L2 : List Nat} {a a' : AAct} {H H' : AH}, Runs E cp cr st ops F (L1 ++ j :: L2) a H a' H' → (∀ i ∈ L1, Free ops F i j) → Runs E cp cr st ops F (j :: (L1 ++ L2)) a H a' H'
  | [], L2, a, a', H, H', h, _ => h
  | i :: L1, L2, a, a', H, H', h, hf => by
    obtain ⟨x, vx, H1, hx, ex, fx, hr⟩ := h
    obtain ⟨y, vy, H2, hy, ey, fy, hr'⟩ := bubble hU hr (fun k hk => hf k (List.mem_cons_of_mem _ hk))
    obtain ⟨hap, hd⟩ := hf i (List.mem_cons_self ..) x y hx hy
    rw [← fx, ← fy] at hd
    obtain ⟨H1', e1, f1, e2, f2, hp⟩ := swap hU hap ex ey hd
    refine ⟨y, vy, H1', hy, e1, by rw [f1, fy], x, vx, H2, hx, e2, by rw [f2, fx], ?_⟩
    rw [hp]
    exact hr'
end

end Go.Proofs.YtpmjpogcaglphaaDoor.A
/- A, part 18: regions, in text order and in any order. -/
namespace Go.Proofs.YtpmjpogcaglphaaDoor.A
open Go

section
variable {E : Env} {cp : CallP} {cr : CallR} {st : Nat} {ops : Array Oper}

theorem yielded_rel {c : Ctx} {a : AAct} {ca : Act} (hA : AR c a ca) {j : Nat} {y : Option Bool} (h : yieldedA ops a j = some y) : yielded ops ca.tmps j = y := by
  unfold yieldedA at h
  unfold yielded
  cases hd : (ops[j]?).bind (·.dst) with
  | none => rw [hd] at h; injection h with h
  | some d =>
    rw [hd] at h
    dsimp only at h
    have hs := hA.slot d
    simp only [Option.bind_some]
    have key : ∀ b, ca.tmps[d]? = some (.bool b) → VR c (a d) (.bool b) := fun b hb => by
      simpa [Array.getD_eq_getD_getElem?, hb] using hs
    cases ha : a d with
    | bool b =>
      rw [ha] at h hs
      injection h with h; subst h
      have hv := hs.bool_
      cases ht : ca.tmps[d]? with
      | none => simp [Array.getD_eq_getD_getElem?, ht, undef] at hv
      | some u => simp [Array.getD_eq_getD_getElem?, ht] at hv; subst hv; rfl
    | und => rw [ha] at h; cases h
    | mp => rw [ha] at h; cases h
    | _ =>
      rw [ha] at h
      injection h with h; subst h
      split
      · rename_i b hb
        have hv := key b hb
        rw [ha] at hv
        cases hv with
        | data _ _ hv => cases hv
      · rfl
theorem wanted_rel {c : Ctx} {a : AAct} {ca : Act} (hA : AR c a ca) {o : Oper} {b : Bool} (h : wantedA ops a o = some b) : Region.wanted o (yielded ops ca.tmps) = b := by
  unfold wantedA at h
  unfold Region.wanted
  cases hg : o.guard with
  | none => rw [hg] at h; injection h
  | some gw =>
    obtain ⟨g, want⟩ := gw
    rw [hg] at h
    dsimp only at h ⊢
    cases hy : yieldedA ops a g with
    | none => rw [hy] at h; cases h
    | some y =>
      rw [hy] at h
      simp only [Option.map_some] at h
      injection h with h
      rw [yielded_rel hA hy, h]

/-- Where a run stands within a region. N: what may have been named since the region's beginning. -/
structure At (P : Program) (ops : Array Oper) (st n : Nat) (T0 : Tag → Prop) (nx0 : Nat) (L : List Nat) (c : Ctx) (a : AAct) (ca : Act) (H : AH) : Prop where
  inv : Inv c
  heap : c.H = H.o
  act : AR c a ca
  size : ca.tmps.size = n
  lt : st < H.nx
  nx : ∀ t, c.T t → t.1 < H.nx
  old : ∀ t, c.T t → T0 t ∨ nx0 ≤ t.1
  fresh : ∀ i ∈ L, ∀ o d, ops[i]? = some o → creates o = true → o.dst = some d → ¬ c.T (st, d)

theorem noClash : ∀ {l : List Oper} {i j : Nat} {x y : Oper}, newsOk l = true → i < j → l[i]? = some x → l[j]? = some y → clash x y = false
  | [], i, j, x, y, _, _, h, _ => by simp at h
  | z :: l, i, j, x, y, h, hij, hx, hy => by
    simp only [newsOk, Bool.and_eq_true, List.all_eq_true, Bool.not_eq_true'] at h
    cases j with
    | zero => omega
    | succ j =>
      simp only [List.getElem?_cons_succ] at hy
      cases i with
      | zero =>
        simp only [List.getElem?_cons_zero, Option.some.injEq] at hx
        subst hx
        exact h.1 y (List.mem_of_getElem? hy)
      | succ i => exact noClash (i := i) (j := j) h.2 (by omega) (by simpa using hx) hy
theorem clash_symm (x y : Oper) (h : clash x y = false) : clash y x = false := by
  unfold clash at *
  by_cases hx : creates x = true <;> by_cases hy : creates y = true <;> simp_all
  intro h1 h2
  have : x.dst.isSome = true := by rw [← h2]; exact h1
  simp [this, h2] at h

theorem step_sound (hP : CPSound E.P cp) (hX : CPSound E.P E.ext) (hR : CRSound E.P cr) (hn : newsOk ops.toList = true) {n nx0 : Nat} {T0 : Tag → Prop} {i : Nat} {L : List Nat} {o : Oper} {c : Ctx} {a : AAct} {ca : Act} {H H1 : AH} {v : AV} (ho : ops[i]? = some o)
    (hd : ∀ d, o.dst = some d → d < n) (h0 : nx0 ≤ st) (hat : At E.P ops st n T0 nx0 (i :: L) c a ca H) (hL : i ∉ L) (h : stepV E cp cr st ops o a H = some (v, H1)) {K : Act → World → Prop} {Q : Exit → Act → World → Prop}
    (hK : ∀ c' ca', Step c c' → At E.P ops st n T0 nx0 L c' (putO a o.dst v) ca' H1 → K ca' c'.w) : wpOp E.P ops Q i K ca c.w := by
  unfold wpOp
  simp only [ho]
  unfold stepV at h
  have hdn : ∀ d, o.dst = some d → d < ca.tmps.size := fun d hd' => by rw [hat.size]; exact hd d hd'
  split at h
  · rename_i hw
    rw [wanted_rel hat.act hw, if_pos rfl]
    obtain ⟨hle, hok⟩ := evalOp_sound (K := K) (Q := Q) hP hX hR hat.inv hat.heap hat.act hat.nx (fun d hd' hc => hat.fresh i (List.mem_cons_self ..) o d ho hc hd') h
    refine .inl (hok fun c' cv hi hs hH hT hv => hK c' _ hs ?_)
    refine ⟨hi, hH, (hat.act.mono hs.mono).put o.dst hdn hv, by rw [put_size, hat.size], Nat.lt_of_lt_of_le hat.lt hle, fun t ht => ?_, fun t ht => ?_, fun j hj y d hy hc hdst ht => ?_⟩
    · rcases hT t ht with h1 | ⟨_, d, _, rfl⟩ | ⟨_, h1⟩
      · exact Nat.lt_of_lt_of_le (hat.nx t h1) hle
      · exact Nat.lt_of_lt_of_le hat.lt hle
      · exact h1
    · rcases hT t ht with h1 | ⟨_, d, _, rfl⟩ | ⟨h1, _⟩
      · exact hat.old t h1
      · exact .inr h0
      · exact .inr (Nat.le_trans h0 (Nat.le_trans (Nat.le_of_lt hat.lt) h1))
    · rcases hT _ ht with h1 | ⟨hc', d', hdst', e⟩ | ⟨h1, _⟩
      · exact hat.fresh j (List.mem_cons_of_mem _ hj) y d hy hc hdst h1
      · have hij : i ≠ j := fun e => hL (by rw [e]; exact hj)
        injection e with _ e
        have hcl : clash o y = false := by
          rcases Nat.lt_or_gt_of_ne hij with h2 | h2
          · exact noClash hn h2 (by simpa using ho) (by simpa using hy)
          · exact clash_symm _ _ (noClash hn h2 (by simpa using hy) (by simpa using ho))
        subst e
        simp [clash, hc, hc', hdst, hdst'] at hcl
      · have := hat.lt
        simp only at h1
        omega
  · rename_i hw
    rw [wanted_rel hat.act hw]
    injection h with h
    injection h with h1 h2
    subst h1; subst h2
    simp only [Bool.false_eq_true, if_false]
    exact hK c _ (Step.refl c) ⟨hat.inv, hat.heap, hat.act.put o.dst hdn (VR.noV_ c), by rw [put_size, hat.size], hat.lt, hat.nx, hat.old, fun j hj => hat.fresh j (List.mem_cons_of_mem _ hj)⟩
  · cases h

theorem At.perm {n nx0 : Nat} {T0 : Tag → Prop} {L L' : List Nat} {c : Ctx} {a : AAct} {ca : Act} {H : AH} (h : At E.P ops st n T0 nx0 L c a ca H) (hp : ∀ i ∈ L', i ∈ L) : At E.P ops st n T0 nx0 L' c a ca H :=
  ⟨h.inv, h.heap, h.act, h.size, h.lt, h.nx, h.old, fun i hi => h.fresh i (hp i hi)⟩

/-- The operations of a list, one after the other. -/
theorem list_sound (hP : CPSound E.P cp) (hX : CPSound E.P E.ext) (hR : CRSound E.P cr) (hn : newsOk ops.toList = true) {n nx0 : Nat} {T0 : Tag → Prop} (hd : ∀ (i : Nat) (o : Oper) (d : Nat), ops[i]? = some o → o.dst = some d → d < n) (h0 : nx0 ≤ st) {F : Nat → FP} {Q : Exit → Act → World → Prop} :
    ∀ {L : List Nat} {c : Ctx} {a a' : AAct} {ca : Act} {H H' : AH}, L.Nodup → At E.P ops st n T0 nx0 L c a ca H → Runs E cp cr st ops F L a H a' H' → (∀ c' ca', Step c c' → At E.P ops st n T0 nx0 [] c' a' ca' H' → Q .normal ca' c'.w) → wpOps E.P ops Q L ca c.w
  | [], c, a, a', ca, H, H', _, hat, hr, hQ => by
    obtain ⟨rfl, rfl⟩ := hr
    exact hQ c ca (Step.refl c) hat
  | i :: L, c, a, a', ca, H, H', hnd, hat, hr, hQ => by
    obtain ⟨o, v, H1, ho, hs, _, hr⟩ := hr
    rw [wpOps_cons]
    have hnd' := List.nodup_cons.1 hnd
    exact step_sound hP hX hR hn ho (fun d hd' => hd i o d ho hd') h0 hat hnd'.1 hs fun c1 ca1 hs1 hat1 =>
      list_sound hP hX hR hn hd h0 hnd'.2 hat1 hr fun c' ca' hs' hat' => hQ c' ca' (hs1.trans hs') hat'

/-! ### any order -/
/-- What a table of ancestors says. -/
structure Anc (ops : Array Oper) (B : Nat → List Nat) : Prop where
  lt : ∀ (j : Nat) (y : Oper) (e : Edge), ops[j]? = some y → e ∈ y.after → Region.binds .any e = true → e.on < j
  up : ∀ (j : Nat) (y : Oper) (i : Nat), ops[j]? = some y → i ∈ B j → ∃ e ∈ y.after, Region.binds .any e = true ∧ (i = e.on ∨ i ∈ B e.on)

theorem any_sound (hU : Up cr) (hP : CPSound E.P cp) (hX : CPSound E.P E.ext) (hR : CRSound E.P cr) (hn : newsOk ops.toList = true) {n nx0 : Nat} {T0 : Tag → Prop} (hd : ∀ (i : Nat) (o : Oper) (d : Nat), ops[i]? = some o → o.dst = some d → d < n) (h0 : nx0 ≤ st) {F : Nat → FP} {B : Nat → List Nat} (hB : Anc ops B)
    (hF : ∀ i j, i < j → i ∉ B j → Free ops F i j) {Q : Exit → Act → World → Prop} :
    ∀ (fuel : Nat) {L : List Nat} {listed : Array Bool} {c : Ctx} {a a' : AAct} {ca : Act} {H H' : AH}, L.length = fuel → L.Pairwise (· < ·) → listed.size = ops.size → (∀ i, i ∈ L ↔ listed.getD i true = false) →
      (∀ j, listed.getD j false = true → ∀ i ∈ B j, listed.getD i false = true) → At E.P ops st n T0 nx0 L c a ca H → Runs E cp cr st ops F L a H a' H' →
      (∀ c' ca', Step c c' → At E.P ops st n T0 nx0 [] c' a' ca' H' → Q .normal ca' c'.w) → wpAny E.P .any ops Q fuel listed ca c.w
  | fuel, L, listed, c, a, a', ca, H, H', hlen, hsort, hsz, hmem, hclosed, hat, hr, hQ => by
    have hbool : ∀ j, j < ops.size → (listed.getD j false = true ↔ j ∉ L) := fun j hj => by
      rw [hmem]
      have hj' : j < listed.size := by omega
      simp [hj']
    have hready : ∀ j, j ∈ Region.ready .any ops listed ↔ j ∈ L ∧ ∃ o, ops[j]? = some o ∧ ∀ e ∈ o.after, Region.binds .any e = true → listed.getD e.on false = true := fun j => by rw [mem_ready, hmem]
    cases fuel with
    | zero =>
      have hL : L = [] := List.eq_nil_of_length_eq_zero hlen
      subst hL
      obtain ⟨rfl, rfl⟩ := hr
      refine ⟨List.eq_nil_iff_forall_not_mem.2 fun j hj => ?_, hQ c ca (Step.refl c) hat⟩
      have := ((hready j).1 hj).1
      cases this
    | succ fuel =>
      refine ⟨fun hnil => ?_, fun j hj => ?_⟩
      · -- the least of the rest is ready
        cases L with
        | nil => cases hlen
        | cons i L =>
          exfalso
          obtain ⟨o, v, H1, ho, _, _, _⟩ := hr
          have : i ∈ Region.ready .any ops listed := (hready i).2 ⟨List.mem_cons_self .., o, ho, fun e he hb => ?_⟩
          · rw [hnil] at this; cases this
          · have hlt := hB.lt i o e ho he hb
            have hi : i < ops.size := (Array.getElem?_eq_some_iff.1 ho).1
            rw [hbool e.on (by omega)]
            intro hm
            rcases List.mem_cons.1 hm with h1 | h1
            · omega
            · have := (List.pairwise_cons.1 hsort).1 _ h1
              omega
      · obtain ⟨hjL, o, ho, hafter⟩ := (hready j).1 hj
        obtain ⟨L1, L2, rfl⟩ := List.append_of_mem hjL
        have hjs : j < ops.size := (Array.getElem?_eq_some_iff.1 ho).1
        have hBj : ∀ i ∈ B j, listed.getD i false = true := fun i hi => by
          obtain ⟨e, he, hb, h1 | h1⟩ := hB.up j o i ho hi
          · rw [h1]; exact hafter e he hb
          · exact hclosed e.on (hafter e he hb) i h1
        have hsort' := List.pairwise_append.1 hsort
        have hL1 : ∀ i ∈ L1, i < j := fun i hi => hsort'.2.2 i hi j (List.mem_cons_self ..)
        have hfree : ∀ i ∈ L1, Free ops F i j := fun i hi => hF i j (hL1 i hi) fun hm => by
          have h1 := hBj i hm
          rw [hbool i (by have := hL1 i hi; omega)] at h1
          exact h1 (List.mem_append_left _ hi)
        have hnd : (L1 ++ j :: L2).Nodup := hsort.imp (fun h => Nat.ne_of_lt h)
        have hjn : j ∉ L1 ++ L2 := by
          rw [List.nodup_append] at hnd
          intro hm
          rcases List.mem_append.1 hm with h1 | h1
          · exact hnd.2.2 j h1 j (List.mem_cons_self ..) rfl
          · exact (List.nodup_cons.1 hnd.2.1).1 h1
        obtain ⟨o', v, H1, ho', hs, _, hr'⟩ := bubble hU hr hfree
        obtain rfl : o' = o := by rw [ho] at ho'; injection ho' with h; exact h.symm
        refine step_sound hP hX hR hn ho (fun d hd' => hd j o' d ho hd') h0 (hat.perm (L' := j :: (L1 ++ L2)) fun i hi => ?_) hjn hs fun c1 ca1 hs1 hat1 => ?_
        · simp only [List.mem_cons, List.mem_append] at hi ⊢
          rcases hi with h1 | h1 | h1
          · exact .inr (.inl h1)
          · exact .inl h1
          · exact .inr (.inr h1)
        · refine any_sound hU hP hX hR hn hd h0 hB hF fuel (L := L1 ++ L2) ?_ ?_ (by simpa using hsz) (fun i => ?_) (fun k hk i hi => ?_) hat1 hr' (fun c' ca' hs' hat' => hQ c' ca' (hs1.trans hs') hat')
          · simp at hlen ⊢
            omega
          · refine List.pairwise_append.2 ⟨hsort'.1, (List.pairwise_cons.1 hsort'.2.1).2, fun x hx y hy => hsort'.2.2 x hx y (List.mem_cons_of_mem _ hy)⟩
          · by_cases hij : j = i
            · subst hij
              refine ⟨fun h => absurd h hjn, fun h => ?_⟩
              have hj' : j < listed.size := by omega
              simp [hj'] at h
            · rw [getD_set_ne true hij, ← hmem]
              simp only [List.mem_append, List.mem_cons]
              constructor
              · rintro (h | h)
                · exact .inl h
                · exact .inr (.inr h)
              · rintro (h | h | h)
                · exact .inl h
                · exact absurd h.symm hij
                · exact .inr h
          · by_cases hjk : j = k
            · subst hjk
              exact getD_set_true (hBj i hi)
            · rw [getD_set_ne false hjk] at hk
              exact getD_set_true (hclosed k hk i hi)
end

end Go.Proofs.YtpmjpogcaglphaaDoor.A
/- A, part 19: the check of a region whose order is drawn. -/
namespace Go.Proofs.YtpmjpogcaglphaaDoor.A
open Go

section
variable {E : Env} {cp : CallP} {cr : CallR} {st : Nat} {ops : Array Oper}

theorem touch_foot (o : Oper) (a : AAct) (H : AH) : (touch E o = 0 → foot E st ops o a H = FP.none_) ∧ (touch E o ≤ 1 → (foot E st ops o a H).w = [] ∧ (foot E st ops o a H).all = false) := by
  by_cases hw : wantedA ops a o = some true
  · rw [foot_go hw]
    obtain ⟨dst, op, type, pos, after, guard⟩ := o
    unfold touch
    cases op <;> dsimp only <;> try exact ⟨fun h => (by cases h), fun h => (by omega)⟩
    all_goals try exact ⟨fun _ => rfl, fun _ => ⟨rfl, rfl⟩⟩
    all_goals try exact ⟨fun h => (by cases h), fun _ => ⟨rfl, rfl⟩⟩
    rename_i c
    cases hc : c.callee with
    | invoke r m => exact ⟨fun h => (by cases h), fun h => (by dsimp only at h; omega)⟩
    | builtin b => cases b <;> first | exact ⟨fun h => (by cases h), fun h => (by dsimp only at h; omega)⟩ | exact ⟨fun h => (by cases h), fun _ => ⟨rfl, rfl⟩⟩
    | value f =>
      cases f with
      | func g =>
        simp only [opd]
        cases hm : E.mode g with
        | pure b => cases b <;> first | exact ⟨fun h => (by cases h), fun h => (by dsimp only at h; omega)⟩ | exact ⟨fun h => (by cases h), fun _ => ⟨rfl, rfl⟩⟩
        | ext b => cases b <;> first | exact ⟨fun h => (by cases h), fun h => (by dsimp only at h; omega)⟩ | exact ⟨fun h => (by cases h), fun _ => ⟨rfl, rfl⟩⟩
        | raw b => exact ⟨fun h => (by cases h), fun h => (by dsimp only at h; omega)⟩
      | _ => exact ⟨fun h => (by cases h), fun h => (by dsimp only at h; omega)⟩
  · have : foot E st ops o a H = FP.none_ := by unfold foot; rw [if_neg hw]
    rw [this]
    exact ⟨fun _ => rfl, fun _ => ⟨rfl, rfl⟩⟩
theorem touch_le (o : Oper) : touch E o ≤ 2 := by
  unfold touch
  repeat' split
  all_goals omega

/-- A pair that the touches alone tell apart. -/
theorem light_disj {fx fy : FP} {tx ty : Nat} (hx : (tx = 0 → fx = FP.none_) ∧ (tx ≤ 1 → fx.w = [] ∧ fx.all = false)) (hy : (ty = 0 → fy = FP.none_) ∧ (ty ≤ 1 → fy.w = [] ∧ fy.all = false)) (lx : tx ≤ 2) (ly : ty ≤ 2)
    (h : ((tx == 2 && ty != 0) || (ty == 2 && tx != 0)) = false) : disj fx fy = true := by
  have key : tx = 0 ∨ ty = 0 ∨ (tx ≤ 1 ∧ ty ≤ 1) := by
    simp only [Bool.or_eq_false_iff, Bool.and_eq_false_iff, beq_eq_false_iff_ne, bne_eq_false_iff_eq] at h
    omega
  rcases key with h0 | h0 | ⟨h1, h2⟩
  · rw [hx.1 h0]
    unfold disj FP.none_
    cases ha : fy.all <;> simp
  · rw [hy.1 h0]
    unfold disj FP.none_
    cases ha : fx.all <;> simp
  · obtain ⟨w1, a1⟩ := hx.2 h1
    obtain ⟨w2, a2⟩ := hy.2 h2
    unfold disj
    simp [w1, a1, w2, a2]

theorem befores_spec : ∀ {l : List Oper} {done bs : List (List Nat)}, befores l done = some bs → ∃ tail, bs = done ++ tail ∧ ∀ (k : Nat) (o : Oper), l[k]? = some o →
    (∀ e ∈ o.after, Region.binds .any e = true → e.on < done.length + k) ∧ ∀ i ∈ (bs[done.length + k]?).getD [], ∃ e ∈ o.after, Region.binds .any e = true ∧ (i = e.on ∨ i ∈ (bs[e.on]?).getD [])
  | [], done, bs, h => by
    simp only [befores] at h
    injection h with h
    exact ⟨[], by simp [h], fun k o ho => by simp at ho⟩
  | x :: l, done, bs, h => by
    simp only [befores] at h
    split at h
    · rename_i b hb
      obtain ⟨tail, rfl, hspec⟩ := befores_spec h
      refine ⟨b :: tail, by simp, fun k o ho => ?_⟩
      cases k with
      | zero =>
        simp only [List.getElem?_cons_zero, Option.some.injEq] at ho
        subst ho
        unfold before1 at hb
        split at hb
        · rename_i hall
          injection hb with hb
          have hlt : ∀ e ∈ x.after, Region.binds .any e = true → e.on < done.length := fun e he hbd => by
            have := List.all_eq_true.1 hall e (by simpa using he)
            simpa [hbd] using this
          refine ⟨hlt, fun i hi => ?_⟩
          have : (done ++ [b] ++ tail)[done.length + 0]? = some b := by simp
          rw [this] at hi
          simp only [Option.getD_some] at hi
          rw [← hb] at hi
          have hi := (mem_once hi).resolve_right (by simp)
          obtain ⟨e, he, hi⟩ := List.mem_flatMap.1 hi
          obtain ⟨he, hbd⟩ := List.mem_filter.1 he
          have he' : e ∈ x.after := by simpa using he
          refine ⟨e, he', hbd, ?_⟩
          rcases List.mem_cons.1 hi with h1 | h1
          · exact .inl h1
          · refine .inr ?_
            rw [List.append_assoc, List.getElem?_append_left (hlt e he' hbd)]
            exact h1
        · cases hb
      | succ k =>
        simp only [List.getElem?_cons_succ] at ho
        have := hspec k o ho
        simp only [List.length_append, List.length_cons, List.length_nil] at this
        have e : done.length + (0 + 1) + k = done.length + (k + 1) := by omega
        rw [e] at this
        exact this
    · cases h

theorem open_spec {prs : List (Nat × Nat)} (h : openPairs E ops = some prs) : ∃ B : Nat → List Nat, Anc ops B ∧ ∀ (i j : Nat) (x y : Oper), i < j → ops[i]? = some x → ops[j]? = some y → i ∉ B j →
    x.apart ops y = true ∧ (((touch E x == 2 && touch E y != 0) || (touch E y == 2 && touch E x != 0)) = false ∨ (i, j) ∈ prs) := by
  unfold openPairs at h
  split at h
  · cases h
  · rename_i bs hbs
    dsimp only at h
    split at h
    · cases h
    · split at h
      · rename_i hall
        injection h with h
        obtain ⟨tail, _, hspec⟩ := befores_spec hbs
        refine ⟨fun j => (bs[j]?).getD [], ⟨fun j y e hy he hb => ?_, fun j y i hy hi => ?_⟩, fun i j x y hij hx hy hi => ?_⟩
        · have := (hspec j y (by simpa using hy)).1 e he hb
          simpa using this
        · have := (hspec j y (by simpa using hy)).2 i (by simpa using hi)
          simpa using this
        · have hm : (x, i, y, j) ∈ (ops.toList.zipIdx.flatMap fun (y, j) => (ops.toList.zipIdx.take j).filterMap fun (x, i) => if ((bs[j]?).getD []).contains i then none else some (x, i, y, j)) := by
            refine List.mem_flatMap.2 ⟨(y, j), List.mk_mem_zipIdx_iff_getElem?.2 (by simpa using hy), ?_⟩
            refine List.mem_filterMap.2 ⟨(x, i), ?_, ?_⟩
            · refine List.mem_of_getElem? (i := i) ?_
              rw [List.getElem?_take_of_lt hij, List.getElem?_zipIdx]
              have : ops.toList[i]? = some x := by simpa using hx
              rw [this]
              simp
            · dsimp only
              rw [if_neg (by simpa using hi)]
          have ha := List.all_eq_true.1 hall _ hm
          refine ⟨ha, ?_⟩
          by_cases ht : ((touch E x == 2 && touch E y != 0) || (touch E y == 2 && touch E x != 0)) = true
          · right
            rw [← h]
            refine List.mem_map.2 ⟨(x, i, y, j), List.mem_filter.2 ⟨hm, ?_⟩, rfl⟩
            exact ht
          · left
            simpa using ht
      · cases h

theorem stepsF_runs : ∀ {l : List Oper} {k : Nat} {a a' : AAct} {H H' : AH} {fs : List FP} {F : Nat → FP}, (∀ j o, l[j]? = some o → ops[k + j]? = some o) → (∀ j, F (k + j) = (fs[j]?).getD FP.none_) → stepsF E cp cr st ops l a H = some (a', H', fs) → Runs E cp cr st ops F (List.range' k l.length) a H a' H'
  | [], k, a, a', H, H', fs, F, _, _, h => by
    simp only [stepsF] at h
    injection h with h
    injection h with h1 h
    injection h with h2 h3
    exact ⟨h1.symm, h2.symm⟩
  | o :: l, k, a, a', H, H', fs, F, hl, hF, h => by
    simp only [stepsF] at h
    rw [step1_eq] at h
    cases hs : stepV E cp cr st ops o a H with
    | none => rw [hs] at h; cases h
    | some p =>
      rw [hs] at h
      simp only [Option.map_some] at h
      split at h
      · rename_i a2 H2 fs' hr
        injection h with h
        injection h with h1 h
        injection h with h2 h3
        subst h1; subst h2; subst h3
        refine ⟨o, p.1, p.2, by simpa using hl 0 o rfl, hs, by simpa using (hF 0).symm, ?_⟩
        refine stepsF_runs (fun j x hj => ?_) (fun j => ?_) hr
        · have := hl (j + 1) x (by simpa using hj)
          rw [← this]
          congr 1
          omega
        · have := hF (j + 1)
          simp only [List.getElem?_cons_succ] at this
          rw [← this]
          congr 1
          omega
      · cases h
theorem steps_stepsF : ∀ {l : List Oper} {a a' : AAct} {H H' : AH}, steps E cp cr st ops l a H = some (a', H') → ∃ fs, stepsF E cp cr st ops l a H = some (a', H', fs)
  | [], a, a', H, H', h => by
    simp only [steps] at h
    injection h with h
    injection h with h1 h2
    exact ⟨[], by simp [stepsF, h1, h2]⟩
  | o :: l, a, a', H, H', h => by
    simp only [steps] at h
    cases hs : step1 E cp cr st ops o a H with
    | none => rw [hs] at h; cases h
    | some p =>
      obtain ⟨a1, H1⟩ := p
      rw [hs] at h
      obtain ⟨fs, hf⟩ := steps_stepsF h
      exact ⟨_, by simp only [stepsF, hs, hf]; rfl⟩
/-- Every operation that a run passed has that footprint. -/
theorem runs_foot {F : Nat → FP} : ∀ {L : List Nat} {a a' : AAct} {H H' : AH}, Runs E cp cr st ops F L a H a' H' → ∀ i ∈ L, ∃ o b G, ops[i]? = some o ∧ foot E st ops o b G = F i
  | [], a, a', H, H', _, i, hi => by cases hi
  | j :: L, a, a', H, H', h, i, hi => by
    obtain ⟨o, v, H1, ho, hs, hf, hr⟩ := h
    rcases List.mem_cons.1 hi with h1 | h1
    · subst h1; exact ⟨o, a, H, ho, hf⟩
    · exact runs_foot hr i h1

/-- What is asked of the machine at a region's end. -/
abbrev Done (T0 : Tag → Prop) (nx0 n : Nat) (c : Ctx) (a' : AAct) (H' : AH) (R : Act → World → Prop) : Prop :=
  ∀ c' ca', Inv c' → Step c c' → c'.H = H'.o → AR c' a' ca' → ca'.tmps.size = n → (∀ t, c'.T t → t.1 < H'.nx) → (∀ t, c'.T t → T0 t ∨ nx0 ≤ t.1) → R ca' c'.w

theorem region_sound (hU : Up cr) (hP : CPSound E.P cp) (hX : CPSound E.P E.ext) (hR : CRSound E.P cr) (hm : E.P.follows .mixedOrders = true) {id n nx0 : Nat} {T0 : Tag → Prop} {draw : Bool} (hn : newsOk ops.toList = true) (hd : opsDst n ops.toList = true) {c : Ctx} {a a' : AAct} {ca : Act} {H H' : AH}
    {out : Out} (hI : Inv c) (hH : c.H = H.o) (hA : AR c a ca) (hsz : ca.tmps.size = n) (h0 : nx0 ≤ H.nx) (hnx : ∀ t, c.T t → t.1 < H.nx) (hold : ∀ t, c.T t → T0 t ∨ nx0 ≤ t.1) (h : evalRegion E cp cr ops draw a H = some (out, a', H')) {Q : Exit → Act → World → Prop}
    (hQ : Done T0 nx0 n c a' H' (Q .normal)) : out = .normal ∧ (Code.region id ops draw).wp E.P Q ca c.w := by
  have hd' : ∀ (i : Nat) (o : Oper) (d : Nat), ops[i]? = some o → o.dst = some d → d < n := fun i o d ho hdst => by
    have := List.all_eq_true.1 hd o (by simpa using Array.mem_of_getElem? ho)
    rw [hdst] at this
    simpa using this
  have fin : ∀ {c1 : Ctx}, Step c c1 → ∀ c' ca', Step c1 c' → At E.P ops H.nx n T0 nx0 [] c' a' ca' H' → Q .normal ca' c'.w := fun s1 c' ca' hs hat => hQ c' ca' hat.inv (s1.trans hs) hat.heap hat.act hat.size hat.nx hat.old
  have start : ∀ {c1 : Ctx}, Inv c1 → c1.H = H.o → AR c1 a ca → c1.T = c.T → ∀ L, At E.P ops H.nx n T0 nx0 L c1 a ca { H with nx := H.nx + 1 } := fun {c1} i1 hh ha ht L => by
    refine ⟨i1, hh, ha, hsz, by simp, fun t hT => ?_, fun t hT => ?_, fun i _ o d _ _ _ hT => ?_⟩
    · rw [ht] at hT
      have := hnx t hT
      simp only
      omega
    · rw [ht] at hT
      exact hold t hT
    · rw [ht] at hT
      have := hnx _ hT
      simp only at this
      omega
  have runs0 : ∀ {fs : List FP}, stepsF E cp cr H.nx ops ops.toList a { H with nx := H.nx + 1 } = some (a', H', fs) → Runs E cp cr H.nx ops (fun i => (fs[i]?).getD FP.none_) (List.range ops.size) a { H with nx := H.nx + 1 } a' H' := fun {fs} hf => by
    have := stepsF_runs (k := 0) (F := fun i => (fs[i]?).getD FP.none_) (fun j o hj => by simpa using hj) (fun j => by simp) hf
    rw [List.range_eq_range']
    simpa using this
  have drawn : ∀ {prs : List (Nat × Nat)} {fs : List FP}, openPairs E ops = some prs → racesOk fs prs = true → stepsF E cp cr H.nx ops ops.toList a { H with nx := H.nx + 1 } = some (a', H', fs) → (Code.region id ops true).wp E.P Q ca c.w := fun {prs fs} ho hr hf => by
    have hruns := runs0 hf
    obtain ⟨B, hB, hpairs⟩ := open_spec ho
    obtain ⟨i1, s1⟩ := step_world (c := c) (w := { c.w with drawn := c.w.drawn + 1 }) hI rfl rfl rfl rfl
    refine wp_region_any hm ?_
    have hF : ∀ i j, i < j → i ∉ B j → Free ops (fun i => (fs[i]?).getD FP.none_) i j := fun i j hij hi x y hx hy => by
      obtain ⟨hap, hl⟩ := hpairs i j x y hij hx hy hi
      refine ⟨hap, ?_⟩
      rcases hl with hl | hl
      · have hxs := (Array.getElem?_eq_some_iff.1 hx).1
        have hys := (Array.getElem?_eq_some_iff.1 hy).1
        obtain ⟨x', b1, G1, hx', f1⟩ := runs_foot hruns i (List.mem_range.2 hxs)
        obtain ⟨y', b2, G2, hy', f2⟩ := runs_foot hruns j (List.mem_range.2 hys)
        rw [hx] at hx'
        rw [hy] at hy'
        injection hx' with hx'
        injection hy' with hy'
        subst hx'; subst hy'
        dsimp only at f1 f2 ⊢
        rw [← f1, ← f2]
        exact light_disj (touch_foot x b1 G1) (touch_foot y b2 G2) (touch_le x) (touch_le y) hl
      · have := List.all_eq_true.1 hr (i, j) hl
        dsimp only at this
        split at this
        · rename_i fx fy h1 h2
          simp only [h1, h2, Option.getD_some]
          exact this
        · cases this
    refine any_sound hU hP hX hR hn hd' h0 hB hF ops.size (L := List.range ops.size) (c := c.world { c.w with drawn := c.w.drawn + 1 }) (by simp) List.pairwise_lt_range (by simp) (fun i => ?_) (fun j hj => ?_) (start i1 hH (hA.mono s1.mono) rfl _) hruns (fin s1)
    · rw [List.mem_range]
      by_cases hi : i < ops.size <;> simp [hi]
    · exfalso
      by_cases hj' : j < ops.size <;> simp [hj'] at hj
  unfold evalRegion at h
  cases draw with
  | false =>
    dsimp only at h
    cases hs : steps E cp cr H.nx ops ops.toList a { H with nx := H.nx + 1 } with
    | none => rw [hs] at h; cases h
    | some p =>
      rw [hs] at h
      simp only [Option.map_some] at h
      injection h with h
      injection h with h1 h
      injection h with h2 h3
      refine ⟨h1.symm, ?_⟩
      obtain ⟨fs, hf⟩ := steps_stepsF (show steps E cp cr H.nx ops ops.toList a { H with nx := H.nx + 1 } = some (a', H') from by rw [hs, ← h2, ← h3])
      exact wp_region (list_sound hP hX hR hn hd' h0 List.nodup_range (start hI hH hA rfl _) (runs0 hf) (fin (Step.refl c)))
  | true =>
    dsimp only at h
    split at h
    · rename_i ho
      cases hs : steps E cp cr H.nx ops ops.toList a { H with nx := H.nx + 1 } with
      | none => rw [hs] at h; cases h
      | some p =>
        rw [hs] at h
        simp only [Option.map_some] at h
        injection h with h
        injection h with h1 h
        injection h with h2 h3
        refine ⟨h1.symm, ?_⟩
        obtain ⟨fs, hf⟩ := steps_stepsF (show steps E cp cr H.nx ops ops.toList a { H with nx := H.nx + 1 } = some (a', H') from by rw [hs, ← h2, ← h3])
        exact drawn ho rfl hf
    · rename_i prs _ ho
      split at h
      · rename_i a1 H1 fs hf
        split at h
        · rename_i hr
          injection h with h
          injection h with h1 h
          injection h with h2 h3
          refine ⟨h1.symm, ?_⟩
          exact drawn ho hr (by rw [hf, h2, h3])
        · cases h
      · cases h
    · cases h
end

end Go.Proofs.YtpmjpogcaglphaaDoor.A
/- A, part 20: names are given upwards. -/
namespace Go.Proofs.YtpmjpogcaglphaaDoor.A
open Go

section
variable {E : Env} {cp : CallP} {cr : CallR} {st : Nat} {ops : Array Oper} {v : AV}


theorem nx_map {x : Option AV} {H H' : AH} (h : (x.map (·, H)) = some (v, H')) : H.nx ≤ H'.nx := by rw [(mapH h).2]; exact Nat.le_refl _
theorem nx_eq {n m : Nat} (h : m = n) : n ≤ m := by rw [h]; exact Nat.le_refl _
theorem build_nx {P : Program} {tg : Tag} {t : TypeId} {len : Nat} {ps : List (Nat × AV)} {H H' : AH} (h : aBuildSlice P tg t len ps H = some (v, H')) : H'.nx = H.nx := by
  unfold aBuildSlice at h
  split at h
  · cases h
  · split at h
    · split at h
      · split at h
        · injection h with h; injection h with h1 h2; subst h2; rfl
        · cases h
      · cases h
    · cases h
theorem make_nx {P : Program} {tg : Tag} {t : TypeId} {l cp : Int} {H H' : AH} (h : aMakeSlice P tg t l cp H = some (v, H')) : H'.nx = H.nx := by
  unfold aMakeSlice at h
  split at h
  · cases h
  · split at h
    · split at h
      · injection h with h; injection h with h1 h2; subst h2; rfl
      · cases h
    · cases h
theorem freezeP_nx {sc : Bool} {as_ : List AV} {r : AV} {H H' : AH} (hf : freezeP sc as_ r H = some (v, H')) : H'.nx = H.nx := by
  unfold freezeP at hf
  split at hf
  · split at hf
    · injection hf with hf; injection hf with h1 h2; rw [← h2]
    · cases hf
  · injection hf with hf; injection hf with h1 h2; rw [← h2]
theorem freezeR_nx (frz : Bool) (r : AV) (H : AH) : (freezeR frz r H).2.nx = H.nx := by
  unfold freezeR
  split
  · dsimp only
    split <;> rfl
  · rfl

theorem call_nx (hR : Up cr) {fv : AV} {args : List AV} {H H' : AH} (h : aCall E cp cr fv args H = some (v, H')) : H.nx ≤ H'.nx := by
  unfold aCall at h
  split at h
  · dsimp only at h
    split at h
    · obtain ⟨r, _, h⟩ := bind_some' h
      exact nx_eq (freezeP_nx h)
    · obtain ⟨r, _, h⟩ := bind_some' h
      exact nx_eq (freezeP_nx h)
    · rename_i g first captured _ frz _
      cases hs : cr g (first ++ args ++ captured) H with
      | none => rw [hs] at h; cases h
      | some p =>
        rw [hs] at h
        simp only [Option.map_some] at h
        injection h with h
        have : (freezeR frz p.1 p.2).2 = H' := by rw [h]
        rw [← this, freezeR_nx]
        exact (hR _ _ _ _ _ hs).1
  · cases h

theorem evalOp_nx (hR : Up cr) {o : Oper} {a : AAct} {H H' : AH} (h : evalOp E cp cr st o a H = some (v, H')) : H.nx ≤ H'.nx := by
  unfold evalOp at h
  split at h
  · exact nx_map h
  · exact nx_map h
  · split at h
    · exact nx_map h
    · exact nx_map h
    · cases h
  · split at h
    · injection h with h; injection h with h1 h2; subst h2; exact Nat.le_refl _
    · cases h
  · split at h
    · split at h
      · injection h with h; injection h with h1 h2; subst h2; exact Nat.le_refl _
      · cases h
    · cases h
  · obtain ⟨_, _, h⟩ := bind_some' h
    exact nx_map h
  · obtain ⟨_, _, h⟩ := needD_some h
    obtain ⟨_, _, h⟩ := bind_some' h
    exact nx_eq (build_nx h)
  · obtain ⟨_, _, h⟩ := bind_some' h
    exact nx_map h
  · rename_i t p x _
    obtain ⟨pv, _, h⟩ := bind_some' h
    obtain ⟨xv, _, h⟩ := bind_some' h
    cases hs : aStore E.P t pv xv H with
    | none => rw [hs] at h; cases h
    | some H1 =>
      rw [hs] at h
      simp only [Option.map_some] at h
      injection h with h; injection h with h1 h2
      rw [← h2]
      exact nx_eq (aStore_nx hs)
  · split at h
    · injection h with h; injection h with h1 h2; subst h2; exact Nat.le_refl _
    · injection h with h; injection h with h1 h2; subst h2; exact Nat.le_refl _
    · injection h with h; injection h with h1 h2; subst h2; exact Nat.le_refl _
    · cases h
  · obtain ⟨_, _, h⟩ := bind_some' h
    obtain ⟨_, _, h⟩ := bind_some' h
    exact nx_map h
  · obtain ⟨_, _, h⟩ := bind_some' h
    exact nx_map h
  · obtain ⟨_, _, h⟩ := needD_some h
    obtain ⟨_, _, h⟩ := bind_some' h
    exact nx_eq (aConvert_nx h)
  · split at h
    · injection h with h; injection h with h1 h2; subst h2; exact Nat.le_refl _
    · cases h
  · split at h
    · injection h with h; injection h with h1 h2; subst h2; exact Nat.le_refl _
    · cases h
  · obtain ⟨_, _, h⟩ := needD_some h
    obtain ⟨_, _, h⟩ := bind_some' h
    obtain ⟨_, _, h⟩ := bind_some' h
    exact nx_eq (make_nx h)
  · obtain ⟨_, _, h⟩ := bind_some' h
    obtain ⟨_, _, h⟩ := bind_some' h
    obtain ⟨_, _, h⟩ := bind_some' h
    exact nx_map h
  · split at h
    · split at h
      · cases h
      · injection h with h; injection h with h1 h2; subst h2; exact Nat.le_refl _
    · split at h
      · cases h
      · injection h with h; injection h with h1 h2; subst h2; exact Nat.le_refl _
    · cases h
  · split at h
    · exact nx_map h
    · cases h
  · obtain ⟨_, _, h⟩ := bind_some' h
    obtain ⟨_, _, h⟩ := bind_some' h
    exact nx_map h
  · obtain ⟨_, _, h⟩ := bind_some' h
    obtain ⟨_, _, h⟩ := bind_some' h
    exact nx_map h
  · obtain ⟨_, _, h⟩ := bind_some' h
    obtain ⟨_, _, h⟩ := bind_some' h
    exact nx_map h
  · rename_i t m k x _
    obtain ⟨mv, _, h⟩ := bind_some' h
    obtain ⟨kv, _, h⟩ := bind_some' h
    obtain ⟨xv, _, h⟩ := bind_some' h
    cases hs : aMapUpdate E.P t mv kv xv H with
    | none => rw [hs] at h; cases h
    | some H1 =>
      rw [hs] at h
      simp only [Option.map_some] at h
      injection h with h; injection h with h1 h2
      rw [← h2]
      exact nx_eq (aMapUpdate_nx hs)
  · rename_i t m k x _
    obtain ⟨mv, _, h⟩ := bind_some' h
    obtain ⟨kv, _, h⟩ := bind_some' h
    obtain ⟨xv, _, h⟩ := bind_some' h
    cases hs : aMapUpdate E.P t mv kv xv H with
    | none => rw [hs] at h; cases h
    | some H1 =>
      rw [hs] at h
      simp only [Option.map_some] at h
      injection h with h; injection h with h1 h2
      rw [← h2]
      exact nx_eq (aMapUpdate_nx hs)
  · split at h
    · exact nx_map h
    · cases h
  · obtain ⟨args, _, h⟩ := bind_some' h
    split at h
    · obtain ⟨_, _, h⟩ := bind_some' h
      exact call_nx hR h
    · split at h
      · exact nx_map h
      · cases h
    · split at h
      · split at h
        · obtain ⟨_, _, h⟩ := needD_some h
          exact nx_eq (aAppend_nx h)
        · cases h
      · cases h
    · split at h
      · split at h
        · exact nx_eq (aCopy_nx h)
        · cases h
      · cases h
    · exact nx_map h
    · exact nx_map h
    · cases h
  · cases h

theorem step1_nx (hR : Up cr) {o : Oper} {a a' : AAct} {H H' : AH} (h : step1 E cp cr st ops o a H = some (a', H')) : H.nx ≤ H'.nx := by
  unfold step1 at h
  split at h
  · cases hs : evalOp E cp cr st o a H with
    | none => rw [hs] at h; cases h
    | some p =>
      rw [hs] at h
      simp only [Option.map_some] at h
      injection h with h; injection h with h1 h2
      rw [← h2]
      exact evalOp_nx hR (show evalOp E cp cr st o a H = some (p.1, p.2) from hs)
  · injection h with h; injection h with h1 h2; subst h2; exact Nat.le_refl _
  · cases h
theorem steps_nx (hR : Up cr) : ∀ {l : List Oper} {a a' : AAct} {H H' : AH}, steps E cp cr st ops l a H = some (a', H') → H.nx ≤ H'.nx
  | [], a, a', H, H', h => by
    simp only [steps] at h
    injection h with h; injection h with h1 h2; subst h2; exact Nat.le_refl _
  | o :: l, a, a', H, H', h => by
    simp only [steps] at h
    split at h
    · rename_i a1 H1 hs
      exact Nat.le_trans (step1_nx hR hs) (steps_nx hR h)
    · cases h
theorem stepsF_nx (hR : Up cr) : ∀ {l : List Oper} {a a' : AAct} {H H' : AH} {fs : List FP}, stepsF E cp cr st ops l a H = some (a', H', fs) → H.nx ≤ H'.nx
  | [], a, a', H, H', fs, h => by
    simp only [stepsF] at h
    injection h with h; injection h with h1 h2; injection h2 with h2 h3; subst h2; exact Nat.le_refl _
  | o :: l, a, a', H, H', fs, h => by
    simp only [stepsF] at h
    split at h
    · rename_i a1 H1 hs
      split at h
      · rename_i a2 H2 fs' hr
        injection h with h; injection h with h1 h2; injection h2 with h2 h3
        rw [← h2]
        exact Nat.le_trans (step1_nx hR hs) (stepsF_nx hR hr)
      · cases h
    · cases h
theorem region_nx (hR : Up cr) {draw : Bool} {a a' : AAct} {H H' : AH} {out : Out} (h : evalRegion E cp cr ops draw a H = some (out, a', H')) : H.nx ≤ H'.nx := by
  have plain : ((steps E cp cr H.nx ops ops.toList a { H with nx := H.nx + 1 }).map fun p => (Out.normal, p.1, p.2)) = some (out, a', H') → H.nx ≤ H'.nx := fun h => by
    cases hs : steps E cp cr H.nx ops ops.toList a { H with nx := H.nx + 1 } with
    | none => rw [hs] at h; cases h
    | some p =>
      rw [hs] at h
      simp only [Option.map_some] at h
      injection h with h; injection h with h1 h2; injection h2 with h2 h3
      have := steps_nx hR (show steps E cp cr H.nx ops ops.toList a { H with nx := H.nx + 1 } = some (p.1, p.2) from hs)
      rw [← h3]
      simp only at this
      omega
  unfold evalRegion at h
  split at h
  · exact plain h
  · split at h
    · exact plain h
    · split at h
      · rename_i a1 H1 fs hs
        split at h
        · injection h with h; injection h with h1 h2; injection h2 with h2 h3
          have := stepsF_nx hR hs
          rw [← h3]
          simp only at this
          omega
        · cases h
      · cases h
    · cases h

def UpR (r : AH → Res) : Prop := ∀ H out a' H', r H = some (out, a', H') → H.nx ≤ H'.nx
theorem seq_nx {r : Res} {f : AAct → AH → Res} {H0 H' : AH} {out : Out} {a' : AAct} (hr : ∀ o1 a1 H1, r = some (o1, a1, H1) → H0.nx ≤ H1.nx) (hf : ∀ a, UpR (f a)) (h : seqR r f = some (out, a', H')) : H0.nx ≤ H'.nx := by
  unfold seqR at h
  split at h
  · rename_i a1 H1
    exact Nat.le_trans (hr _ _ _ rfl) (hf _ _ _ _ _ h)
  · exact hr _ _ _ h
theorem iter_nx {f : AAct → AH → Res} (hf : ∀ a, UpR (f a)) : ∀ n a, UpR (iter f n a)
  | 0, a, H, out, a', H', h => by simp only [iter] at h; cases h
  | n + 1, a, H, out, a', H', h => by
    simp only [iter] at h
    exact seq_nx (fun o1 a1 H1 h1 => hf a H o1 a1 H1 h1) (iter_nx hf n) h
theorem jumps_nx {has : Nat → Bool} {g : Nat → AAct → AH → Res} (hg : ∀ l a, UpR (g l a)) {H0 : AH} : ∀ (n : Nat) (r : Res) (out : Out) (a' : AAct) (H' : AH), (∀ o1 a1 H1, r = some (o1, a1, H1) → H0.nx ≤ H1.nx) → jumps has g n r = some (out, a', H') → H0.nx ≤ H'.nx
  | 0, r, out, a', H', hr, h => by simp only [jumps] at h; cases h
  | n + 1, r, out, a', H', hr, h => by
    simp only [jumps] at h
    split at h
    · rename_i l a1 H1
      split at h
      · exact jumps_nx hg n _ out a' H' (fun o2 a2 H2 h2 => Nat.le_trans (hr _ _ _ rfl) (hg l a1 H1 o2 a2 H2 h2)) h
      · exact hr _ _ _ h
    · exact hr _ _ _ h
theorem evalC_nx (hR : Up cr) (k : Nat) : ∀ (c : Code) (s : Option Nat) (a : AAct), UpR (evalC E cp cr k s c a)
  | .skip, none, a, H, out, a', H', h => by
    simp only [evalC] at h
    injection h with h; injection h with h1 h2; injection h2 with h2 h3; subst h3; exact Nat.le_refl _
  | .label l', none, a, H, out, a', H', h => by
    simp only [evalC] at h
    injection h with h; injection h with h1 h2; injection h2 with h2 h3; subst h3; exact Nat.le_refl _
  | .label l', some l, a, H, out, a', H', h => by
    simp only [evalC] at h
    split at h
    · injection h with h; injection h with h1 h2; injection h2 with h2 h3; subst h3; exact Nat.le_refl _
    · cases h
  | .region _ ops draw, none, a, H, out, a', H', h => by
    simp only [evalC] at h
    exact region_nx hR h
  | .seq x y, none, a, H, out, a', H', h => by
    simp only [evalC] at h
    exact seq_nx (fun o1 a1 H1 h1 => evalC_nx hR k x none a H o1 a1 H1 h1) (evalC_nx hR k y none) h
  | .seq x y, some l, a, H, out, a', H', h => by
    simp only [evalC] at h
    split at h
    · exact seq_nx (fun o1 a1 H1 h1 => evalC_nx hR k x (some l) a H o1 a1 H1 h1) (evalC_nx hR k y none) h
    · exact evalC_nx hR k y (some l) a H out a' H' h
  | .cond c x y, none, a, H, out, a', H', h => by
    simp only [evalC] at h
    split at h
    · exact evalC_nx hR k x none a H out a' H' h
    · exact evalC_nx hR k y none a H out a' H' h
    · cases h
  | .block id c, none, a, H, out, a', H', h => by
    simp only [evalC] at h
    split at h
    · rename_i id' a1 H1 h1
      have := evalC_nx hR k c none a H _ a1 H1 h1
      split at h
      · injection h with h; injection h with h1 h2; injection h2 with h2 h3; subst h3; exact this
      · injection h with h; injection h with h1 h2; injection h2 with h2 h3; subst h3; exact this
    · exact evalC_nx hR k c none a H out a' H' h
  | .loop c, none, a, H, out, a', H', h => by
    simp only [evalC] at h
    exact iter_nx (evalC_nx hR k c none) k a H out a' H' h
  | .exit id, none, a, H, out, a', H', h => by
    simp only [evalC] at h
    injection h with h; injection h with h1 h2; injection h2 with h2 h3; subst h3; exact Nat.le_refl _
  | .goto l, none, a, H, out, a', H', h => by
    simp only [evalC] at h
    injection h with h; injection h with h1 h2; injection h2 with h2 h3; subst h3; exact Nat.le_refl _
  | .ret, none, a, H, out, a', H', h => by
    simp only [evalC] at h
    injection h with h; injection h with h1 h2; injection h2 with h2 h3; subst h3; exact Nat.le_refl _
  | .scope c, none, a, H, out, a', H', h => by
    simp only [evalC] at h
    exact jumps_nx (fun l a => evalC_nx hR k c (some l) a) k _ out a' H' (fun o1 a1 H1 h1 => evalC_nx hR k c none a H o1 a1 H1 h1) h
  | .rangeFunc _ _ _ _, none, a, H, out, a', H', h => by simp only [evalC] at h; cases h
  | .rangeFunc _ _ _ _, some _, a, H, out, a', H', h => by simp only [evalC] at h; cases h
  | .skip, some _, a, H, out, a', H', h => by simp only [evalC] at h; cases h
  | .region _ _ _, some _, a, H, out, a', H', h => by simp only [evalC] at h; cases h
  | .cond _ _ _, some _, a, H, out, a', H', h => by simp only [evalC] at h; cases h
  | .block _ _, some _, a, H, out, a', H', h => by simp only [evalC] at h; cases h
  | .loop _, some _, a, H, out, a', H', h => by simp only [evalC] at h; cases h
  | .exit _, some _, a, H, out, a', H', h => by simp only [evalC] at h; cases h
  | .goto _, some _, a, H, out, a', H', h => by simp only [evalC] at h; cases h
  | .ret, some _, a, H, out, a', H', h => by simp only [evalC] at h; cases h
  | .scope _, some _, a, H, out, a', H', h => by simp only [evalC] at h; cases h
theorem body_nx (hR : Up cr) {k : Nat} {f : FuncId} {args : List AV} {H H' : AH} (h : runBody E cp cr k f args H = some (v, H')) : H.nx ≤ H'.nx := by
  have res : ∀ {a : AAct} {H1 : AH} {rs : List ResultVar}, ((resultsL E.P a H1 rs).map fun vs => (tup1 vs, H1)) = some (v, H') → H' = H1 := fun {a H1 rs} h => by
    cases hs : resultsL E.P a H1 rs with
    | none => rw [hs] at h; cases h
    | some vs =>
      rw [hs] at h
      simp only [Option.map_some] at h
      injection h with h; injection h with h1 h2
      exact h2.symm
  unfold runBody at h
  split at h
  · cases h
  · split at h
    · split at h
      · cases h
      · rename_i c _
        split at h
        · rename_i a1 H1 h1
          rw [res h]
          exact evalC_nx hR k c none _ _ _ _ _ h1
        · rename_i a1 H1 h1
          rw [res h]
          exact evalC_nx hR k c none _ _ _ _ _ h1
        · cases h
    · cases h
/-! ### code that reads alone -/
theorem step1_reads {o : Oper} {a a' : AAct} {H H' : AH} (ht : touch E o ≤ 1) (h : step1 E cp cr st ops o a H = some (a', H')) : H' = H := by
  rw [step1_eq] at h
  cases hs : stepV E cp cr st ops o a H with
  | none => rw [hs] at h; cases h
  | some p =>
    obtain ⟨v, H1⟩ := p
    rw [hs] at h
    simp only [Option.map_some] at h
    injection h with h; injection h with _ h2
    obtain ⟨hw, hall⟩ := (touch_foot (E := E) (st := st) (ops := ops) o a H).2 ht
    obtain ⟨D, hD⟩ := stepV_local hall hs
    have e : D = fun _ => none := by
      funext t
      cases hd : D t with
      | none => rfl
      | some z => have := hD.w t z hd; rw [hw] at this; cases this
    subst e
    rw [← h2]
    exact hD.out
theorem steps_reads : ∀ {l : List Oper} {a a' : AAct} {H H' : AH}, (∀ o ∈ l, touch E o ≤ 1) → steps E cp cr st ops l a H = some (a', H') → H' = H
  | [], a, a', H, H', _, h => by
    simp only [steps] at h
    injection h with h; injection h with h1 h2; exact h2.symm
  | o :: l, a, a', H, H', ht, h => by
    simp only [steps] at h
    split at h
    · rename_i a1 H1 hs
      have e1 := step1_reads (ht o (List.mem_cons_self ..)) hs
      have e2 := steps_reads (fun o ho => ht o (List.mem_cons_of_mem _ ho)) h
      rw [e2, e1]
    · cases h
theorem stepsF_reads : ∀ {l : List Oper} {a a' : AAct} {H H' : AH} {fs : List FP}, (∀ o ∈ l, touch E o ≤ 1) → stepsF E cp cr st ops l a H = some (a', H', fs) → H' = H
  | [], a, a', H, H', fs, _, h => by
    simp only [stepsF] at h
    injection h with h; injection h with h1 h2; injection h2 with h2 h3; exact h2.symm
  | o :: l, a, a', H, H', fs, ht, h => by
    simp only [stepsF] at h
    split at h
    · rename_i a1 H1 hs
      split at h
      · rename_i a2 H2 fs' hr
        injection h with h; injection h with h1 h2; injection h2 with h2 h3
        have e1 := step1_reads (ht o (List.mem_cons_self ..)) hs
        have e2 := stepsF_reads (fun o ho => ht o (List.mem_cons_of_mem _ ho)) hr
        rw [← h2, e2, e1]
      · cases h
    · cases h
theorem region_reads {draw : Bool} {a a' : AAct} {H H' : AH} {out : Out} (ht : ∀ o ∈ ops.toList, touch E o ≤ 1) (h : evalRegion E cp cr ops draw a H = some (out, a', H')) : H'.o = H.o := by
  have plain : ((steps E cp cr H.nx ops ops.toList a { H with nx := H.nx + 1 }).map fun p => (Out.normal, p.1, p.2)) = some (out, a', H') → H'.o = H.o := fun h => by
    cases hs : steps E cp cr H.nx ops ops.toList a { H with nx := H.nx + 1 } with
    | none => rw [hs] at h; cases h
    | some p =>
      rw [hs] at h
      simp only [Option.map_some] at h
      injection h with h; injection h with h1 h2; injection h2 with h2 h3
      have := steps_reads ht (show steps E cp cr H.nx ops ops.toList a { H with nx := H.nx + 1 } = some (p.1, p.2) from hs)
      rw [← h3, this]
  unfold evalRegion at h
  split at h
  · exact plain h
  · split at h
    · exact plain h
    · split at h
      · rename_i a1 H1 fs hs
        split at h
        · injection h with h; injection h with h1 h2; injection h2 with h2 h3
          have := stepsF_reads ht hs
          rw [← h3, this]
        · cases h
      · cases h
    · cases h
theorem evalC_reads {k : Nat} : ∀ (c : Code) {a a' : AAct} {H H' : AH} {out : Out}, readsOnly E c = true → evalC E cp cr k none c a H = some (out, a', H') → H'.o = H.o
  | .region id ops draw, a, a', H, H', out, hr, h => by
    simp only [evalC] at h
    simp only [readsOnly, List.all_eq_true, decide_eq_true_eq] at hr
    exact region_reads hr h
  | .seq x y, a, a', H, H', out, hr, h => by
    simp only [evalC] at h
    simp only [readsOnly, Bool.and_eq_true] at hr
    unfold seqR at h
    split at h
    · rename_i a1 H1 hx
      rw [evalC_reads y hr.2 h, evalC_reads x hr.1 hx]
    · exact evalC_reads x hr.1 h
  | .cond c x y, a, a', H, H', out, hr, h => by
    simp only [evalC] at h
    simp only [readsOnly, Bool.and_eq_true] at hr
    split at h
    · exact evalC_reads x hr.1 h
    · exact evalC_reads y hr.2 h
    · cases h
  | .ret, a, a', H, H', out, _, h => by
    simp only [evalC] at h
    injection h with h; injection h with h1 h2; injection h2 with h2 h3; rw [h3]
  | .skip, a, a', H, H', out, _, h => by
    simp only [evalC] at h
    injection h with h; injection h with h1 h2; injection h2 with h2 h3; rw [h3]
  | .block _ _, _, _, _, _, _, hr, _ => by simp [readsOnly] at hr
  | .loop _, _, _, _, _, _, hr, _ => by simp [readsOnly] at hr
  | .scope _, _, _, _, _, _, hr, _ => by simp [readsOnly] at hr
  | .label _, _, _, _, _, _, hr, _ => by simp [readsOnly] at hr
  | .exit _, _, _, _, _, _, hr, _ => by simp [readsOnly] at hr
  | .goto _, _, _, _, _, _, hr, _ => by simp [readsOnly] at hr
  | .rangeFunc .., _, _, _, _, _, hr, _ => by simp [readsOnly] at hr
theorem body_reads {k : Nat} {f : FuncId} {args : List AV} {H H' : AH} (hf : readsF E f = true) (h : runBody E cp cr k f args H = some (v, H')) : H'.o = H.o := by
  have res : ∀ {a : AAct} {H1 : AH} {rs : List ResultVar}, ((resultsL E.P a H1 rs).map fun vs => (tup1 vs, H1)) = some (v, H') → H' = H1 := fun {a H1 rs} h => by
    cases hs : resultsL E.P a H1 rs with
    | none => rw [hs] at h; cases h
    | some vs =>
      rw [hs] at h
      simp only [Option.map_some] at h
      injection h with h; injection h with h1 h2
      exact h2.symm
  unfold readsF at hf
  unfold runBody at h
  split at h
  · cases h
  · rename_i fn hfn
    rw [hfn] at hf
    dsimp only at hf
    split at h
    · split at h
      · cases h
      · rename_i c hc
        rw [hc] at hf
        dsimp only at hf
        split at h
        · rename_i a1 H1 h1
          rw [res h]
          exact evalC_reads c hf h1
        · rename_i a1 H1 h1
          rw [res h]
          exact evalC_reads c hf h1
        · cases h
    · cases h
theorem calls_nx (E : Env) : ∀ n, Up (calls E n).2
  | 0 => fun g as_ H v H' h => by simp only [calls] at h; cases h
  | n + 1 => fun g as_ H v H' h => by
    simp only [calls] at h
    split at h
    · cases h
    · rename_i hk
      refine ⟨body_nx (calls_nx E n) h, fun hk' t _ => ?_⟩
      rw [hk'] at hk
      rw [body_reads (by simpa using hk) h]
end

end Go.Proofs.YtpmjpogcaglphaaDoor.A
/- A, part 21: code. -/
namespace Go.Proofs.YtpmjpogcaglphaaDoor.A
open Go

section
variable {E : Env} {cp : CallP} {cr : CallR} {n nx0 : Nat} {T0 : Tag → Prop}

def exitOf : Out → Exit
  | .normal => .normal
  | .exit id => .exit id
  | .goto l => .goto l
  | .ret => .ret

/-- Between regions. -/
structure Here (n nx0 : Nat) (T0 : Tag → Prop) (c : Ctx) (a : AAct) (ca : Act) (H : AH) : Prop where
  inv : Inv c
  heap : c.H = H.o
  act : AR c a ca
  size : ca.tmps.size = n
  le : nx0 ≤ H.nx
  nx : ∀ t, c.T t → t.1 < H.nx
  old : ∀ t, c.T t → T0 t ∨ nx0 ≤ t.1

/-- The run went out that way, and stands there. -/
def Post (n nx0 : Nat) (T0 : Tag → Prop) (c : Ctx) (out : Out) (a' : AAct) (H' : AH) : Exit → Act → World → Prop :=
  fun e ca' w' => e = exitOf out ∧ ∃ c', c'.w = w' ∧ Step c c' ∧ Here n nx0 T0 c' a' ca' H'

theorem Post.step {c c1 : Ctx} {out : Out} {a' : AAct} {H' : AH} {e : Exit} {ca' : Act} {w' : World} (s : Step c c1) (h : Post n nx0 T0 c1 out a' H' e ca' w') : Post n nx0 T0 c out a' H' e ca' w' := by
  obtain ⟨h1, c', h2, h3, h4⟩ := h
  exact ⟨h1, c', h2, s.trans h3, h4⟩

/-- Sound, from any start: what the evaluation says is what the code does. -/
def Sound (E : Env) (n nx0 : Nat) (T0 : Tag → Prop) (d : Code) (f : AAct → AH → Res) : Prop :=
  ∀ (c : Ctx) (a : AAct) (ca : Act) (H : AH) (out : Out) (a' : AAct) (H' : AH), Here n nx0 T0 c a ca H → f a H = some (out, a', H') → d.wp E.P (Post n nx0 T0 c out a' H') ca c.w

theorem seq_sound {x y : Code} {f g : AAct → AH → Res} (hx : Sound E n nx0 T0 x f) (hy : Sound E n nx0 T0 y g) : Sound E n nx0 T0 (.seq x y) (fun a H => seqR (f a H) g) := fun c a ca H out a' H' hh h => by
  simp only [seqR] at h
  split at h
  · rename_i a1 H1 h1
    refine wp_seq (wp_mono (hx c a ca H .normal a1 H1 hh h1) ?_)
    rintro e ca1 w1 ⟨rfl, c1, rfl, s1, hh1⟩
    exact wp_mono (hy c1 a1 ca1 H1 out a' H' hh1 h) (fun e ca2 w2 h2 => h2.step s1)
  · rename_i hnot
    refine wp_seq (wp_mono (hx c a ca H out a' H' hh h) ?_)
    intro e ca1 w1 hp
    have he := hp.1
    cases out with
    | normal => exact (hnot a' H' h).elim
    | exit id => subst he; exact hp
    | goto l => subst he; exact hp
    | ret => subst he; exact hp

theorem loop_sound {d : Code} {f : AAct → AH → Res} (hd : Sound E n nx0 T0 d f) (k : Nat) : Sound E n nx0 T0 (.loop d) (iter f k) := fun c a ca H out a' H' hh h b todo cs => by
  have key : ∀ (m : Nat) (c : Ctx) (a : AAct) (ca : Act) (H : AH), Here n nx0 T0 c a ca H → iter f m a H = some (out, a', H') →
      ∃ e ca' w', Post n nx0 T0 c out a' H' e ca' w' ∧ Arrives E.P (lone (b.at ca (.code d :: .inLoop d :: todo)) cs c.w) b todo cs e ca' w' := by
    intro m
    induction m with
    | zero => intro c a ca H _ h; simp only [iter] at h; cases h
    | succ m ih =>
      intro c a ca H hh h
      simp only [iter] at h
      unfold seqR at h
      split at h
      · rename_i a1 H1 h1
        obtain ⟨e, ca1, w1, ⟨he, c1, rfl, s1, hh1⟩, harr⟩ := hd c a ca H .normal a1 H1 hh h1 b (.inLoop d :: todo) cs
        subst he
        obtain ⟨e2, ca2, w2, hp, harr2⟩ := ih c1 a1 ca1 H1 hh1 h
        exact ⟨e2, ca2, w2, hp.step s1, .of_steps (Steps.trans harr (.one step_inLoop)) harr2⟩
      · rename_i hnot
        obtain ⟨e, ca1, w1, hp, harr⟩ := hd c a ca H out a' H' hh h b (.inLoop d :: todo) cs
        have he := hp.1
        cases out with
        | normal => exact (hnot a' H' h).elim
        | exit id => subst he; exact ⟨_, ca1, w1, hp, .pass (x := .inLoop d) rfl (fun _ _ => .inl (by simp [exitOf])) harr⟩
        | goto l => subst he; exact ⟨_, ca1, w1, hp, .pass (x := .inLoop d) rfl (fun _ _ => .inl (by simp [exitOf])) harr⟩
        | ret => subst he; exact ⟨_, ca1, w1, hp, .pass (x := .inLoop d) rfl (fun _ _ => .inl (by simp [exitOf])) harr⟩
  obtain ⟨e, ca', w', hp, harr⟩ := key k c a ca H hh h
  exact ⟨e, ca', w', hp, .of_steps (.one step_loop) harr⟩

theorem scope_sound {d : Code} {f : AAct → AH → Res} {g : Nat → AAct → AH → Res} (hd : Sound E n nx0 T0 d f) (hg : ∀ l rest, findLabel d l = some rest → Sound E n nx0 T0 rest (g l)) (k : Nat) :
    Sound E n nx0 T0 (.scope d) (fun a H => jumps (fun l => (findLabel d l).isSome) g k (f a H)) := fun c a ca H out a' H' hh h b todo cs => by
  have key : ∀ (m : Nat) (x : Code) (fx : AAct → AH → Res) (c : Ctx) (a : AAct) (ca : Act) (H : AH), Sound E n nx0 T0 x fx → Here n nx0 T0 c a ca H → jumps (fun l => (findLabel d l).isSome) g m (fx a H) = some (out, a', H') →
      ∃ e ca' w', Post n nx0 T0 c out a' H' e ca' w' ∧ Arrives E.P (lone (b.at ca (.code x :: .inScope d :: todo)) cs c.w) b todo cs e ca' w' := by
    intro m
    induction m with
    | zero => intro x fx c a ca H _ _ h; simp only [jumps] at h; cases h
    | succ m ih =>
      intro x fx c a ca H hx hh h
      have done : fx a H = some (out, a', H') → (∀ l, out = .goto l → (findLabel d l).isSome = false) → ∃ e ca' w', Post n nx0 T0 c out a' H' e ca' w' ∧ Arrives E.P (lone (b.at ca (.code x :: .inScope d :: todo)) cs c.w) b todo cs e ca' w' := fun h hl => by
        obtain ⟨e, ca1, w1, hp, harr⟩ := hx c a ca H out a' H' hh h b (.inScope d :: todo) cs
        have he := hp.1
        cases out with
        | normal => subst he; exact ⟨.normal, ca1, w1, hp, Steps.trans harr (.one step_inScope)⟩
        | exit id => subst he; exact ⟨.exit id, ca1, w1, hp, fun k' hk => harr k' (by simp [exitTo, hk])⟩
        | goto l =>
          subst he
          refine ⟨.goto l, ca1, w1, hp, fun k' hk => harr k' ?_⟩
          have := hl l rfl
          cases hf : findLabel d l with
          | none => simp [gotoIn, hf, hk]
          | some r => rw [hf] at this; cases this
        | ret => subst he; exact ⟨.ret, ca1, w1, hp, harr⟩
      simp only [jumps] at h
      split at h
      · rename_i l a1 H1 h1
        split at h
        · rename_i hl
          cases hf : findLabel d l with
          | none => rw [hf] at hl; cases hl
          | some rest =>
            obtain ⟨e, ca1, w1, ⟨he, c1, rfl, s1, hh1⟩, harr⟩ := hx c a ca H (.goto l) a1 H1 hh h1 b (.inScope d :: todo) cs
            subst he
            obtain ⟨e2, ca2, w2, hp, harr2⟩ := ih rest (g l) c1 a1 ca1 H1 (hg l rest hf) hh1 h
            exact ⟨e2, ca2, w2, hp.step s1, .of_steps (harr _ (by simp [gotoIn, hf])) harr2⟩
        · rename_i hl
          refine done h (fun l' e => ?_)
          rw [h1] at h
          injection h with h
          injection h with h2 h3
          rw [← h2] at e
          injection e with e
          rw [← e]
          simpa using hl
      · rename_i hnot
        refine done h (fun l e => ?_)
        subst e
        exact (hnot l a' H' h).elim
  obtain ⟨e, ca', w', hp, harr⟩ := key k d f c a ca H hd hh h
  exact ⟨e, ca', w', hp, .of_steps (.one step_scope) harr⟩

def startCode (s : Option Nat) (c : Code) : Option Code :=
  match s with
  | none => some c
  | some l => findLabel c l

variable (hP : CPSound E.P cp) (hX : CPSound E.P E.ext) (hR : CRSound E.P cr) (hm : E.P.follows .mixedOrders = true) (hU : Up cr)
include hP hX hR hm hU

theorem evalC_sound (k : Nat) : ∀ (d : Code) (s : Option Nat) (rest : Code), codeDst n d = true → startCode s d = some rest → Sound E n nx0 T0 rest (evalC E cp cr k s d)
  | .skip, none, rest, _, hs => fun c a ca H out a' H' hh h => by
    injection hs with hs; subst hs
    simp only [evalC] at h
    injection h with h; injection h with h1 h2; injection h2 with h2 h3
    subst h1; subst h2; subst h3
    exact wp_skip ⟨rfl, c, rfl, Step.refl c, hh⟩
  | .label l', none, rest, _, hs => fun c a ca H out a' H' hh h => by
    injection hs with hs; subst hs
    simp only [evalC] at h
    injection h with h; injection h with h1 h2; injection h2 with h2 h3
    subst h1; subst h2; subst h3
    exact wp_label ⟨rfl, c, rfl, Step.refl c, hh⟩
  | .label l', some l, rest, _, hs => fun c a ca H out a' H' hh h => by
    simp only [evalC] at h
    split at h
    · rename_i e
      subst e
      simp only [startCode, findLabel, beq_self_eq_true, if_true] at hs
      injection hs with hs; subst hs
      injection h with h; injection h with h1 h2; injection h2 with h2 h3
      subst h1; subst h2; subst h3
      exact wp_skip ⟨rfl, c, rfl, Step.refl c, hh⟩
    · cases h
  | .region id ops draw, none, rest, hdst, hs => fun c a ca H out a' H' hh h => by
    injection hs with hs; subst hs
    simp only [codeDst, Bool.and_eq_true] at hdst
    simp only [evalC] at h
    have hle := region_nx hU h
    have hout : out = .normal := (region_sound (Q := fun _ _ _ => True) (id := id) (n := n) (nx0 := nx0) (T0 := T0) hU hP hX hR hm hdst.2 hdst.1 hh.inv hh.heap hh.act hh.size hh.le hh.nx hh.old h (fun _ _ _ _ _ _ _ _ _ => trivial)).1
    subst hout
    refine (region_sound hU hP hX hR hm hdst.2 hdst.1 hh.inv hh.heap hh.act hh.size hh.le hh.nx hh.old h (fun c' ca' i1 s1 e1 a1 z1 n1 o1 => ?_)).2
    exact ⟨rfl, c', rfl, s1, i1, e1, a1, z1, Nat.le_trans hh.le hle, n1, o1⟩
  | .seq x y, none, rest, hdst, hs => by
    injection hs with hs; subst hs
    simp only [codeDst, Bool.and_eq_true] at hdst
    have hx := evalC_sound k x none x hdst.1 rfl
    have hy := evalC_sound k y none y hdst.2 rfl
    intro c a ca H out a' H' hh h
    simp only [evalC] at h
    exact seq_sound hx hy c a ca H out a' H' hh h
  | .seq x y, some l, rest, hdst, hs => by
    simp only [codeDst, Bool.and_eq_true] at hdst
    have hy := evalC_sound k y none y hdst.2 rfl
    intro c a ca H out a' H' hh h
    simp only [evalC] at h
    simp only [startCode, findLabel] at hs
    cases hf : findLabel x l with
    | none =>
      rw [hf] at hs h
      have hy' := evalC_sound k y (some l) rest hdst.2 hs
      exact hy' c a ca H out a' H' hh h
    | some r =>
      rw [hf] at hs h
      injection hs with hs; subst hs
      have hx := evalC_sound k x (some l) r hdst.1 hf
      exact seq_sound hx hy c a ca H out a' H' hh h
  | .cond co x y, none, rest, hdst, hs => by
    injection hs with hs; subst hs
    simp only [codeDst, Bool.and_eq_true] at hdst
    have hx := evalC_sound k x none x hdst.1 rfl
    have hy := evalC_sound k y none y hdst.2 rfl
    intro c a ca H out a' H' hh h
    simp only [evalC] at h
    split at h
    · rename_i hc
      exact wp_cond_true (opd_rel hh.act hc).bool_ (hx c a ca H out a' H' hh h)
    · rename_i hc
      exact wp_cond_false (opd_rel hh.act hc).bool_ (hy c a ca H out a' H' hh h)
    · cases h
  | .block id x, none, rest, hdst, hs => by
    injection hs with hs; subst hs
    simp only [codeDst] at hdst
    have hx := evalC_sound k x none x hdst rfl
    intro c a ca H out a' H' hh h
    simp only [evalC] at h
    split at h
    · rename_i id' a1 H1 h1
      refine wp_block (wp_mono (hx c a ca H _ a1 H1 hh h1) ?_)
      rintro e ca1 w1 ⟨rfl, c1, rfl, s1, hh1⟩
      simp only [exitOf, Exit.inBlock]
      split at h
      · rename_i e
        rw [if_pos e]
        injection h with h; injection h with h1 h2; injection h2 with h2 h3
        subst h1; subst h2; subst h3
        exact ⟨rfl, c1, rfl, s1, hh1⟩
      · rename_i e
        rw [if_neg e]
        injection h with h; injection h with h1 h2; injection h2 with h2 h3
        subst h1; subst h2; subst h3
        exact ⟨rfl, c1, rfl, s1, hh1⟩
    · rename_i hnot
      refine wp_block (wp_mono (hx c a ca H out a' H' hh h) ?_)
      intro e ca1 w1 hp
      have he := hp.1
      cases out with
      | normal => subst he; exact hp
      | exit id' => exact (hnot id' a' H' h).elim
      | goto l => subst he; exact hp
      | ret => subst he; exact hp
  | .loop x, none, rest, hdst, hs => by
    injection hs with hs; subst hs
    simp only [codeDst] at hdst
    have hx := evalC_sound k x none x hdst rfl
    intro c a ca H out a' H' hh h
    simp only [evalC] at h
    exact loop_sound hx k c a ca H out a' H' hh h
  | .exit id, none, rest, _, hs => fun c a ca H out a' H' hh h => by
    injection hs with hs; subst hs
    simp only [evalC] at h
    injection h with h; injection h with h1 h2; injection h2 with h2 h3
    subst h1; subst h2; subst h3
    exact wp_exit ⟨rfl, c, rfl, Step.refl c, hh⟩
  | .goto l, none, rest, _, hs => fun c a ca H out a' H' hh h => by
    injection hs with hs; subst hs
    simp only [evalC] at h
    injection h with h; injection h with h1 h2; injection h2 with h2 h3
    subst h1; subst h2; subst h3
    exact wp_goto ⟨rfl, c, rfl, Step.refl c, hh⟩
  | .ret, none, rest, _, hs => fun c a ca H out a' H' hh h => by
    injection hs with hs; subst hs
    simp only [evalC] at h
    injection h with h; injection h with h1 h2; injection h2 with h2 h3
    subst h1; subst h2; subst h3
    exact wp_ret ⟨rfl, c, rfl, Step.refl c, hh⟩
  | .scope x, none, rest, hdst, hs => by
    injection hs with hs; subst hs
    simp only [codeDst] at hdst
    have hx := evalC_sound k x none x hdst rfl
    have hg : ∀ l r, findLabel x l = some r → Sound E n nx0 T0 r (evalC E cp cr k (some l) x) := fun l r hf => evalC_sound k x (some l) r hdst hf
    intro c a ca H out a' H' hh h
    simp only [evalC] at h
    exact scope_sound hx hg k c a ca H out a' H' hh h
  | .refuse _, none, rest, _, hs => fun c a ca H out a' H' hh h => by simp only [evalC] at h; cases h
  | .refuse _, some _, rest, _, hs => fun c a ca H out a' H' hh h => by simp only [evalC] at h; cases h
  | .rangeFunc _ _ _ _, none, rest, _, hs => fun c a ca H out a' H' hh h => by simp only [evalC] at h; cases h
  | .rangeFunc _ _ _ _, some _, rest, _, hs => fun c a ca H out a' H' hh h => by simp only [evalC] at h; cases h
  | .skip, some _, rest, _, hs => fun c a ca H out a' H' hh h => by simp only [evalC] at h; cases h
  | .region _ _ _, some _, rest, _, hs => fun c a ca H out a' H' hh h => by simp only [evalC] at h; cases h
  | .cond _ _ _, some _, rest, _, hs => fun c a ca H out a' H' hh h => by simp only [evalC] at h; cases h
  | .block _ _, some _, rest, _, hs => fun c a ca H out a' H' hh h => by simp only [evalC] at h; cases h
  | .loop _, some _, rest, _, hs => fun c a ca H out a' H' hh h => by simp only [evalC] at h; cases h
  | .exit _, some _, rest, _, hs => fun c a ca H out a' H' hh h => by simp only [evalC] at h; cases h
  | .goto _, some _, rest, _, hs => fun c a ca H out a' H' hh h => by simp only [evalC] at h; cases h
  | .ret, some _, rest, _, hs => fun c a ca H out a' H' hh h => by simp only [evalC] at h; cases h
  | .scope _, some _, rest, _, hs => fun c a ca H out a' H' hh h => by simp only [evalC] at h; cases h
end

end Go.Proofs.YtpmjpogcaglphaaDoor.A
/- A, part 22: calls. -/
namespace Go.Proofs.YtpmjpogcaglphaaDoor.A
open Go

section
variable {P : Program} {c : Ctx} {a : AAct} {ca : Act} {H : AH}

def runResult (ca : Act) : ResultVar → Sem Value
  | .tmp t => pure (ca.tmps.getD t undef)
  | .cell ad t => do loadVar t (← asAddr (ca.tmps.getD ad undef))
theorem result1_rel (hI : Inv c) (hH : c.H = H.o) (hA : AR c a ca) {r : ResultVar} {v : AV} (h : result1 P a H r = some v) : ∃ cv, (runResult ca r).run P c.w = .ok cv c.w ∧ VR c v cv := by
  cases r with
  | tmp t =>
    simp only [result1] at h
    injection h with h; subst h
    exact ⟨_, rfl, hA.slot t⟩
  | cell ad t =>
    simp only [result1] at h
    have hs := hA.slot ad
    obtain ⟨cv, h1, h2⟩ := aLoad_rel hI hH hs h
    have : ∃ ax, ca.tmps.getD ad undef = .pointer (some ax) := by
      unfold aLoad at h
      split at h
      · rename_i k g off e
        rw [e] at hs
        obtain ⟨_, _, ax, e2, _⟩ := hs.ptr_
        exact ⟨ax, e2⟩
      · rename_i cs e
        rw [e] at hs
        obtain ⟨ax, e2, _⟩ := hs.fptr_
        exact ⟨ax, e2⟩
      · cases h
    obtain ⟨ax, e⟩ := this
    refine ⟨cv, ?_, h2⟩
    rw [e] at h1
    simp only [runResult, e]
    simpa [Instr.loadAt, Instr.sureAddr, asAddr] using h1
theorem resultsL_rel (hI : Inv c) (hH : c.H = H.o) (hA : AR c a ca) : ∀ {rs : List ResultVar} {vs : List AV}, resultsL P a H rs = some vs → ∃ cvs, (rs.mapM (m := Sem) (runResult ca)).run P c.w = .ok cvs c.w ∧ LR (VR c) vs cvs
  | [], vs, h => by
    simp only [resultsL] at h
    injection h with h; subst h
    exact ⟨[], rfl, LR.nil⟩
  | r :: rs, vs, h => by
    simp only [resultsL] at h
    split at h
    · rename_i v vs' hv hvs
      injection h with h; subst h
      obtain ⟨cv, h1, h2⟩ := result1_rel hI hH hA hv
      obtain ⟨cvs, h3, h4⟩ := resultsL_rel hI hH hA hvs
      refine ⟨cv :: cvs, ?_, LR.cons h2 h4⟩
      simp only [List.mapM_cons, Sem.run_bind, h1, Result.andThen_ok, h3, Sem.run_pure]
    · cases h
theorem results_rel (hI : Inv c) (hH : c.H = H.o) (hA : AR c a ca) {fn : Func} {vs : List AV} (h : resultsL P a H fn.results.toList = some vs) : ∃ cv, (results fn ca.tmps).run P c.w = .ok cv c.w ∧ VR c (tup1 vs) cv := by
  obtain ⟨cvs, h1, h2⟩ := resultsL_rel hI hH hA h
  have hm : (fn.results.mapM (m := Sem) (runResult ca)).run P c.w = .ok cvs.toArray c.w := by
    rw [Array.mapM_eq_mapM_toList, Sem.run_map, h1]
    rfl
  have hf : results fn ca.tmps = (do let vs ← fn.results.mapM (m := Sem) (runResult ca); pure (if h : vs.size = 1 then vs[0] else .tuple vs)) := by
    unfold results
    congr 2
  refine ⟨if h : cvs.toArray.size = 1 then cvs.toArray[0] else .tuple cvs.toArray, ?_, ?_⟩
  · rw [hf, Sem.run_bind, hm, Result.andThen_ok]
    rfl
  · match vs, cvs, h2 with
    | [v], [cv], h2 => exact h2.2 0 v cv rfl rfl
    | [], [], h2 => exact .tup [] #[] rfl (fun j x u hx => by simp at hx)
    | v :: v2 :: vs, cv :: cv2 :: cvs, h2 =>
      rw [dif_neg (by simp)]
      exact .tup _ _ (by simpa using h2.1) (fun j x u hx hu => h2.2 j x u hx (by simpa using hu))
    | [], cv :: cvs, h2 => have := h2.1; simp at this
    | v :: vs, [], h2 => have := h2.1; simp at this
    | [v], cv :: cv2 :: cvs, h2 => have := h2.1; simp at this
    | v :: v2 :: vs, [cv], h2 => have := h2.1; simp at this

theorem begin_rel {args : List AV} {cargs : List Value} {n : Nat} (h : LR (VR c) args cargs) : AR c (begin_ args) { tmps := cargs.toArray ++ Array.replicate (n - cargs.toArray.size) undef, defers := [] } := by
  refine ⟨rfl, fun t => ?_⟩
  simp only [begin_, Array.getD_eq_getD_getElem?]
  by_cases ht : t < args.length
  · have ht' : t < cargs.length := by rw [h.1]; exact ht
    have : (cargs.toArray ++ Array.replicate (n - cargs.toArray.size) undef)[t]? = some cargs[t] := by
      rw [Array.getElem?_append_left (by simpa using ht')]
      simp [ht']
    rw [this, List.getElem?_eq_getElem ht]
    exact h.2 t _ _ (List.getElem?_eq_getElem ht) (List.getElem?_eq_getElem ht')
  · have h1 : args[t]? = none := List.getElem?_eq_none (by omega)
    rw [h1]
    have : ((cargs.toArray ++ Array.replicate (n - cargs.toArray.size) undef)[t]?).getD undef = undef := by
      rw [Array.getElem?_append_right (by simp [h.1]; omega), Array.getElem?_replicate]
      split <;> rfl
    rw [this]
    exact VR.noV_ c

theorem fnOk_enter {fn : Func} {f : FuncId} (hf : P.funcs[f]? = some fn) (h : fnOk fn = true) : EnterOk P f ∧ ∃ d, fn.body = some d ∧ codeDst fn.ntmps d = true := by
  unfold fnOk at h
  simp only [Bool.and_eq_true, Bool.not_eq_true'] at h
  cases hb : fn.body with
  | none => rw [hb] at h; cases h.2
  | some d =>
    rw [hb] at h
    exact ⟨⟨fn, hf, h.1, by simp [hb]⟩, d, rfl, h.2⟩

/-- What a body's run says, from any context. -/
theorem body_sound {E : Env} {cp : CallP} {cr : CallR} (hP : CPSound E.P cp) (hX : CPSound E.P E.ext) (hR : CRSound E.P cr) (hm : E.P.follows .mixedOrders = true) (hU : Up cr) {k : Nat} {f : FuncId} {args : List AV} {H H' : AH} {v : AV} (h : runBody E cp cr k f args H = some (v, H')) :
    EnterOk E.P f ∧ H.nx ≤ H'.nx ∧ ∀ (c : Ctx) (cargs : List Value), Inv c → c.H = H.o → (∀ t, c.T t → t.1 < H.nx) → LR (VR c) args cargs → Calls E.P f cargs.toArray c.w (RetR c H.nx H'.nx H'.o v) := by
  have hle := body_nx hU h
  unfold runBody at h
  split at h
  · cases h
  · rename_i fn hfn
    split at h
    · rename_i hok
      simp only [Bool.and_eq_true, decide_eq_true_eq] at hok
      obtain ⟨hE, d, hd, hdst⟩ := fnOk_enter hfn hok.1
      refine ⟨hE, hle, fun c cargs hI hH hT hargs => ?_⟩
      rw [hd] at h
      dsimp only at h
      have hlen : cargs.length ≤ fn.ntmps := by rw [hargs.1]; exact hok.2
      have here : Here fn.ntmps H.nx c.T c (begin_ args) { tmps := cargs.toArray ++ Array.replicate (fn.ntmps - cargs.toArray.size) undef, defers := [] } H :=
        ⟨hI, hH, begin_rel hargs, by simp; omega, Nat.le_refl _, hT, fun t ht => .inl ht⟩
      have fin : ∀ {out : Out} {a1 : AAct} {H1 : AH}, (out = .normal ∨ out = .ret) → evalC E cp cr k none d (begin_ args) H = some (out, a1, H1) → ((resultsL E.P a1 H1 fn.results.toList).map fun vs => (tup1 vs, H1)) = some (v, H') → Calls E.P f cargs.toArray c.w (RetR c H.nx H'.nx H'.o v) := fun {out a1 H1} ho he hr => by
        cases hrs : resultsL E.P a1 H1 fn.results.toList with
        | none => rw [hrs] at hr; cases hr
        | some vs =>
          rw [hrs] at hr
          simp only [Option.map_some] at hr
          injection hr with hr; injection hr with h1 h2
          subst h1; subst h2
          refine calls_of_wp hfn hd (wp_mono (evalC_sound (n := fn.ntmps) (nx0 := H.nx) (T0 := c.T) hP hX hR hm hU k d none d hdst rfl c _ _ H out a1 H1 here he) ?_)
          rintro e ca1 w1 ⟨rfl, c1, rfl, s1, hh1⟩
          obtain ⟨cv, hres, hv⟩ := results_rel hh1.inv hh1.heap hh1.act hrs
          have hret : RetR c H.nx H1.nx H1.o (tup1 vs) (.returned cv) c1.w := ⟨cv, c1, rfl, rfl, hh1.inv, s1, hh1.heap, hv, fun t ht => (hh1.old t ht).imp id (fun h => ⟨h, hh1.nx t ht⟩)⟩
          rcases ho with rfl | rfl
          · exact ⟨hh1.act.defers, cv, hres, hret⟩
          · exact ⟨hh1.act.defers, cv, hres, hret⟩
      split at h
      · rename_i a1 H1 he
        exact fin (.inl rfl) he h
      · rename_i a1 H1 he
        exact fin (.inr rfl) he h
      · cases h
    · cases h

/-- The context of a call on data. -/
def Ctx.data (S : Nat → Prop) (w : World) : Ctx := { S := S, φ := fun _ => 0, H := fun _ => none, T := fun _ => False, w := w }
theorem inv_data {S : Nat → Prop} {w : World} (h : ∀ b, S b → b < w.heap.size) (hg : Gl S w) : Inv (Ctx.data S w) :=
  ⟨h, fun k r hr => (by cases hr), fun k es hes => (by cases hes), fun k k' hk => (by obtain ⟨o, ho, _⟩ := hk; cases ho), hg⟩

theorem calls_sound (E : Env) (hX : CPSound E.P E.ext) (hm : E.P.follows .mixedOrders = true) : ∀ n, CPSound E.P (calls E n).1 ∧ CRSound E.P (calls E n).2
  | 0 => ⟨fun g args r h => (by simp only [calls] at h; cases h), fun g args H v H' h => (by simp only [calls] at h; cases h)⟩
  | n + 1 => by
    obtain ⟨hP, hR⟩ := calls_sound E hX hm n
    have hU := calls_nx E n
    refine ⟨fun g args r h => ?_, fun g args H v H' h => ?_⟩
    · simp only [calls] at h
      cases hb : runBody E (calls E n).1 (calls E n).2 (n + 1) g args noHeap with
      | none => rw [hb] at h; cases h
      | some p =>
        obtain ⟨v, H'⟩ := p
        rw [hb] at h
        simp only [Option.map_some] at h
        injection h with h
        subst h
        obtain ⟨hE, _, hc⟩ := body_sound hP hX hR hm hU hb
        refine ⟨hE, fun S w cargs ha hS hG => ?_⟩
        refine (hc (Ctx.data S w) cargs (inv_data hS hG) rfl (fun t ht => ht.elim) (ha.weak fun x u _ h => .data x u h)).mono ?_
        rintro e w' ⟨u, c', rfl, rfl, hi, hs, hH, hv, _⟩
        obtain ⟨i2, s2⟩ := shut_rows hi (viewTags c'.H vDepth v)
        have s3 := hs.trans s2
        have dead : ∀ k, ¬ Live (Ctx.data S w) k := fun k hk => by obtain ⟨o, ho, _⟩ := hk; cases ho
        refine ⟨u, (c'.shut (viewTags c'.H vDepth v)).S, rfl, ⟨hs.os, hs.tape, hs.output, hs.size, fun b hb => hs.keep b hb (fun k hk => (dead k hk).elim)⟩, ?_, s3.mono.S, fun b hb => ⟨?_, i2.imm b hb⟩⟩
        · rw [← hH]
          exact view_rel hi _ s2.mono.S vDepth v u hv (fun k rr hk hrow => .inr ⟨k, rr, hk, hrow, rfl⟩)
        · rcases s3.Snew b hb with h1 | h1 | ⟨k, hk, _⟩
          · exact .inl h1
          · exact .inr h1
          · exact (dead k hk).elim
    · simp only [calls] at h
      split at h
      · cases h
      exact body_sound hP hX hR hm hU h
end

end Go.Proofs.YtpmjpogcaglphaaDoor.A
