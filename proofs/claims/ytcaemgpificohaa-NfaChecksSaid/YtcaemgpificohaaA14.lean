/- A, part 14: one operation. -/
import Derived.Test.YtcaemgpificohaaA13
set_option linter.unusedVariables false
set_option linter.unusedSimpArgs false
set_option linter.unnecessarySimpa false
namespace Go.Proofs.Ytcaemgpificohaa.A
open Go

/-- The names that an operation may give. -/
def News (st : Nat) (o : Oper) (nx nx' : Nat) (t : Tag) : Prop := (creates o = true ∧ ∃ d, o.dst = some d ∧ t = (st, d)) ∨ (nx ≤ t.1 ∧ t.1 < nx')

section
variable {P : Program} {c : Ctx} {o : Oper} {a : AAct} {ca : Act} {K : Act → World → Prop} {Q : Exit → Act → World → Prop}

theorem wp_value {s : Sem Value} {v : Value} {w w' : World} (he : execOp ca.eval o = (do let x ← s; pure (.value x))) (hr : s.run P w = .ok v w') (h : K (ca.put o.dst v) w') : o.wp P ca w K Q := by
  unfold Oper.wp
  rw [he]
  simp only [Sem.run_bind, hr]
  simpa [Oper.upon] using h
theorem wp_unit {s : Sem Unit} {w w' : World} (he : execOp ca.eval o = (do s; pure .skip)) (hr : s.run P w = .ok () w') (h : K (ca.put o.dst undef) w') : o.wp P ca w K Q := by
  unfold Oper.wp
  rw [he]
  simp only [Sem.run_bind, hr]
  simpa [Oper.upon] using h

/-- What is to be shown of an operation that answers v and leaves H'. -/
def OpOk (P : Program) (c : Ctx) (o : Oper) (ca : Act) (K : Act → World → Prop) (Q : Exit → Act → World → Prop) (N : Tag → Prop) (v : AV) (Ho : Tag → Option AObj) : Prop :=
  (∀ c' cv, Inv c' → Step c c' → c'.H = Ho → (∀ t, c'.T t → c.T t ∨ N t) → VR c' v cv → K (ca.put o.dst cv) c'.w) → o.wp P ca c.w K Q

variable {N : Tag → Prop} {v : AV} {Ho : Tag → Option AObj}
theorem ok_does {s : Sem Value} (he : execOp ca.eval o = (do let x ← s; pure (.value x))) (h : Does P c N s v Ho) : OpOk P c o ca K Q N v Ho := fun hK => by
  obtain ⟨cv, c', hr, hi, hs, hH, hT, hv⟩ := h
  exact wp_value he hr (hK c' cv hi hs hH hT hv)
theorem ok_doesU {s : Sem Unit} (he : execOp ca.eval o = (do s; pure .skip)) (h : DoesU P c N s Ho) : OpOk P c o ca K Q N noV Ho := fun hK => by
  obtain ⟨c', hr, hi, hs, hH, hT⟩ := h
  exact wp_unit he hr (hK c' _ hi hs hH hT (VR.noV_ c'))
theorem ok_says (hI : Inv c) {s : Sem Value} (he : execOp ca.eval o = (do let x ← s; pure (.value x))) (h : Says P c s v) (hH : c.H = Ho) : OpOk P c o ca K Q N v Ho := ok_does he (h.does hI hH)
theorem ok_pure (hI : Inv c) {u : Value} (he : execOp ca.eval o = pure (.value u)) (h : VR c v u) (hH : c.H = Ho) : OpOk P c o ca K Q N v Ho := fun hK => by
  unfold Oper.wp
  rw [he]
  simpa [Oper.upon] using hK c u hI (Step.refl c) hH (fun t ht => .inl ht) h
theorem ok_call {g : FuncId} {cargs : Array Value} (he : (execOp ca.eval o).run P c.w = .ok (.enter g cargs) c.w) {nx nx' : Nat} (hN : ∀ t : Tag, nx ≤ t.1 ∧ t.1 < nx' → N t) (h : Calls P g cargs c.w (RetR c nx nx' Ho v)) : OpOk P c o ca K Q N v Ho := fun hK => by
  unfold Oper.wp
  rw [he]
  simp only [Oper.upon]
  refine h.mono ?_
  rintro e w' ⟨u, c', rfl, rfl, hi, hs, hH, hv, hT⟩
  exact hK c' u hi hs hH (fun t ht => (hT t ht).imp id (hN t)) hv

theorem opdI_rel (hA : AR c a ca) {x : Operand} {i : Int} (h : opdI a x = some i) : ca.eval x = .int .i64 i := by
  unfold opdI at h
  cases hx : opd a x with
  | none => rw [hx] at h; cases h
  | some v =>
    rw [hx] at h
    exact asI_rel (opd_rel hA hx) h
theorem opdB_rel (hA : AR c a ca) {x : Option Operand} {i : Option Int} (h : opdB a x = some i) : x.map ca.eval = bV i := by
  cases x with
  | none => simp only [opdB] at h; injection h with h; subst h; rfl
  | some x =>
    simp only [opdB] at h
    cases hx : opdI a x with
    | none => rw [hx] at h; cases h
    | some j =>
      rw [hx] at h
      simp only [Option.map_some] at h
      injection h with h
      subst h
      simp only [Option.map_some, bV, opdI_rel hA hx]
theorem parts_array {parts : Array (Nat × Operand)} {ps : List (Nat × AV)} (hA : AR c a ca) (h : partsOf a parts.toList = some ps) : PartsRel c ps (parts.map fun p => (p.1, ca.eval p.2)).toList := by
  have := partsOf_rel hA h
  simpa using this

theorem needD_some {d : Option Nat} {f : Nat → Option (AV × AH)} {r : AV × AH} (h : needD d f = some r) : ∃ t, d = some t ∧ f t = some r := by
  cases d with
  | none => cases h
  | some t => exact ⟨t, rfl, h⟩
theorem bind_some' {α β : Type} {x : Option α} {f : α → Option β} {r : β} (h : x.bind f = some r) : ∃ y, x = some y ∧ f y = some r := by
  cases x with
  | none => cases h
  | some y => exact ⟨y, rfl, h⟩
theorem mapH {x : Option AV} {H H' : AH} (h : (x.map (·, H)) = some (v, H')) : x = some v ∧ H' = H := by
  cases x with
  | none => cases h
  | some y =>
    simp only [Option.map_some] at h
    injection h with h
    injection h with h1 h2
    exact ⟨by rw [h1], h2.symm⟩

theorem one_arg {x : AV} {l : List Value} (h : ListRel c [x] l) : ∃ u, l = [u] ∧ VR c x u := by
  match l, h with
  | [u], h => exact ⟨u, rfl, h.1⟩
theorem two_args {x y : AV} {l : List Value} (h : ListRel c [x, y] l) : ∃ u v, l = [u, v] ∧ VR c x u ∧ VR c y v := by
  match l, h with
  | [u, v], h => exact ⟨u, v, rfl, h.1, h.2.1⟩
/-- A call by name, or by value: what the machine resolves. -/
theorem run_enter {g : FuncId} (hE : EnterOk P g) (cargs : Array Value) (w : World) : (callFunc g cargs).run P w = .ok (.enter g cargs) w := by
  obtain ⟨fn, hf, hn, hb⟩ := hE
  have hn' : ¬ fn.name = "runtime.NumGoroutine" := by simpa using hn
  simp only [callFunc, Sem.run_bind, run_program, Result.andThen_ok, hf, hn, hb]
  simp

theorem aStore_nx {t : TypeId} {p x : AV} {H H' : AH} (h : aStore P t p x H = some H') : H'.nx = H.nx := by
  unfold aStore at h
  split at h
  · split at h
    · split at h
      · injection h with h; subst h; rfl
      · cases h
    · cases h
  · cases h
theorem aAppend_nx {tg : Tag} {t xt : TypeId} {s x : AV} {H H' : AH} (h : aAppend P tg t xt s x H = some (v, H')) : H'.nx = H.nx := by
  unfold aAppend at h
  split at h
  · cases h
  · split at h
    · split at h
      · cases h
      · split at h
        · split at h
          · injection h with h; injection h with h1 h2; subst h2; rfl
          · split at h
            · injection h with h; injection h with h1 h2; subst h2; rfl
            · cases h
        · split at h
          · split at h
            · injection h with h; injection h with h1 h2; subst h2; rfl
            · cases h
          · cases h
        · cases h
    · cases h
theorem aCopy_nx {t : TypeId} {s x : AV} {H H' : AH} (h : aCopy P t s x H = some (v, H')) : H'.nx = H.nx := by
  unfold aCopy at h
  split at h
  · split at h
    · split at h
      · dsimp only at h
        split at h
        · injection h with h; injection h with h1 h2; subst h2; rfl
        · cases h
      · cases h
    · split at h
      · injection h with h; injection h with h1 h2; subst h2; rfl
      · cases h
    · cases h
  · cases h
theorem aConvert_nx {tg : Tag} {s t : TypeId} {x : AV} {H H' : AH} (h : aConvert P tg s t x H = some (v, H')) : H'.nx = H.nx := by
  unfold aConvert at h
  split at h
  · injection h with h; injection h with h1 h2; subst h2; rfl
  · injection h with h; injection h with h1 h2; subst h2; rfl
  · split at h
    · injection h with h; injection h with h1 h2; subst h2; rfl
    · cases h
  · split at h
    · split at h
      · rename_i n cs _
        split at h
        · cases hb : aBytes cs with
          | none => rw [hb] at h; cases h
          | some bs => rw [hb] at h; injection h with h; injection h with h1 h2; rw [← h2]
        · cases h
      · cases h
    · cases h
  · cases h
theorem array1 {α : Type} {d : α} {xs : Array α} (h : 0 < xs.size) : ∃ rest, xs = (xs.getD 0 d :: rest).toArray := by
  obtain ⟨l⟩ := xs
  cases l with
  | nil => simp at h
  | cons x l => exact ⟨l, by simp⟩
theorem array2 {α : Type} {d : α} {xs : Array α} (h : xs.size = 2) : xs = #[xs.getD 0 d, xs.getD 1 d] := by
  obtain ⟨l⟩ := xs
  match l, h with
  | [x, y], _ => rfl

theorem evalOp_sound {E : Env} {callP : CallP} {callR : CallR} (hP : CPSound E.P callP) (hX : CPSound E.P E.ext) (hR : CRSound E.P callR) {st : Nat} {H H' : AH} (hI : Inv c) (hH : c.H = H.o) (hA : AR c a ca) (hnx : ∀ t, c.T t → t.1 < H.nx)
    (hd : ∀ d, o.dst = some d → creates o = true → ¬ c.T (st, d)) (h : evalOp E callP callR st o a H = some (v, H')) : H.nx ≤ H'.nx ∧ OpOk E.P c o ca K Q (News st o H.nx H'.nx) v H'.o := by
  unfold evalOp at h
  split at h
  · -- move
    rename_i x ho
    replace h := mapH h
    obtain ⟨h, rfl⟩ := h
    exact ⟨Nat.le_refl _, ok_pure hI (by simp only [execOp, ho]) (opd_rel hA h) hH⟩
  · rename_i x ho
    replace h := mapH h
    obtain ⟨h, rfl⟩ := h
    exact ⟨Nat.le_refl _, ok_pure hI (by simp only [execOp, ho]) (opd_rel hA h) hH⟩
  · -- pick
    rename_i co x y ho
    split at h
    · rename_i hc
      replace h := mapH h
      obtain ⟨h, rfl⟩ := h
      have hb := (opd_rel hA hc).bool_
      refine ⟨Nat.le_refl _, ok_says (s := do pure (if ← asBool (ca.eval co) then ca.eval x else ca.eval y)) hI (by simp only [execOp, ho, bind_pure_comp, Functor.map_map]) ⟨ca.eval x, by simp [hb, asBool], opd_rel hA h⟩ hH⟩
    · rename_i hc
      replace h := mapH h
      obtain ⟨h, rfl⟩ := h
      have hb := (opd_rel hA hc).bool_
      refine ⟨Nat.le_refl _, ok_says (s := do pure (if ← asBool (ca.eval co) then ca.eval x else ca.eval y)) hI (by simp only [execOp, ho, bind_pure_comp, Functor.map_map]) ⟨ca.eval y, by simp [hb, asBool], opd_rel hA h⟩ hH⟩
    · cases h
  · -- alloc
    rename_i e ho
    have hcr : creates o = true := by simp [creates, ho]
    split at h
    · rename_i d z hdst hz
      injection h with h
      injection h with h1 h2
      subst h1; subst h2
      exact ⟨Nat.le_refl _, ok_does (by simp only [execOp, ho]) (alloc_rel hI (hd d hdst hcr) hH hz (.inl ⟨hcr, d, hdst, rfl⟩))⟩
    · cases h
  · -- box
    rename_i e x ho
    have hcr : creates o = true := by simp [creates, ho]
    split at h
    · rename_i d z hdst hz
      split at h
      · rename_i hc
        injection h with h
        injection h with h1 h2
        subst h1; subst h2
        exact ⟨Nat.le_refl _, ok_does (by simp only [execOp, ho]) (box_rel hI (hd d hdst hcr) hH (opd_rel hA hz) hc (.inl ⟨hcr, d, hdst, rfl⟩))⟩
      · cases h
    · cases h
  · -- build
    rename_i t parts ho
    replace h := bind_some' h
    obtain ⟨ps, hps, h⟩ := h
    replace h := mapH h
    obtain ⟨h, rfl⟩ := h
    exact ⟨Nat.le_refl _, ok_says hI (by simp only [execOp, ho]) (build_rel (parts_array hA hps) h) hH⟩
  · -- buildSlice
    rename_i t len parts ho
    have hcr : creates o = true := by simp [creates, ho]
    replace h := needD_some h
    obtain ⟨d, hdst, h⟩ := h
    replace h := bind_some' h
    obtain ⟨ps, hps, h⟩ := h
    have hnx' : H'.nx = H.nx := by
      unfold aBuildSlice at h
      repeat' (split at h)
      all_goals first | (injection h with h; injection h with h1 h2; rw [← h2]; rfl) | cases h
    exact ⟨by rw [hnx']; exact Nat.le_refl _, ok_does (by simp only [execOp, ho]) (buildSlice_rel hI (hd d hdst hcr) hH (.inl ⟨hcr, d, hdst, rfl⟩) (parts_array hA hps) h)⟩
  · -- load
    rename_i t x ho
    replace h := bind_some' h
    obtain ⟨p, hp, h⟩ := h
    replace h := mapH h
    obtain ⟨h, rfl⟩ := h
    obtain ⟨cv, h1, h2⟩ := aLoad_rel hI hH (opd_rel hA hp) h
    exact ⟨Nat.le_refl _, ok_says hI (by simp only [execOp, ho]) ⟨cv, h1, h2⟩ hH⟩
  · -- store
    rename_i t p x ho
    replace h := bind_some' h
    obtain ⟨pv, hp, h⟩ := h
    replace h := bind_some' h
    obtain ⟨xv, hx, h⟩ := h
    obtain ⟨hs, hv0⟩ : aStore E.P t pv xv H = some H' ∧ noV = v := by
      cases hs : aStore E.P t pv xv H with
      | none => rw [hs] at h; cases h
      | some H1 => rw [hs] at h; simp only [Option.map_some] at h; injection h with h; injection h with h1 h2; exact ⟨by rw [h2], h1⟩
    clear h
    subst hv0
    exact ⟨by rw [aStore_nx hs]; exact Nat.le_refl _, ok_doesU (by simp only [execOp, ho]) (store_rel hI hH (opd_rel hA hp) (opd_rel hA hx) hs)⟩
  · -- nilCheck
    rename_i x ho
    split at h
    · rename_i k g off hx
      injection h with h
      injection h with h1 h2
      subst h1; subst h2
      have hv := opd_rel hA hx
      obtain ⟨_, _, ad, e, _⟩ := hv.ptr_
      exact ⟨Nat.le_refl _, ok_pure (u := ca.eval x) hI (by simp only [execOp, ho, e]) hv hH⟩
    · rename_i cs hx
      injection h with h
      injection h with h1 h2
      subst h1; subst h2
      have hv := opd_rel hA hx
      obtain ⟨ad, e, _⟩ := hv.fptr_
      exact ⟨Nat.le_refl _, ok_pure (u := ca.eval x) hI (by simp only [execOp, ho, e]) hv hH⟩
    · rename_i f first captured hx
      injection h with h
      injection h with h1 h2
      subst h1; subst h2
      have hv := opd_rel hA hx
      obtain ⟨us, vs, e, _⟩ := hv.fn_
      exact ⟨Nat.le_refl _, ok_pure (u := ca.eval x) hI (by simp only [execOp, ho, e]) hv hH⟩
    · cases h
  · -- binOp
    rename_i op t x y _ ho
    replace h := bind_some' h
    obtain ⟨u, hu, h⟩ := h
    replace h := bind_some' h
    obtain ⟨u', hu', h⟩ := h
    replace h := mapH h
    obtain ⟨h, rfl⟩ := h
    exact ⟨Nat.le_refl _, ok_says hI (by simp only [execOp, ho]) (bin_rel (ox := x) (oy := y) (opd_rel hA hu) (opd_rel hA hu') h) hH⟩
  · -- unOp
    rename_i op t x ho
    replace h := bind_some' h
    obtain ⟨u, hu, h⟩ := h
    replace h := mapH h
    obtain ⟨h, rfl⟩ := h
    exact ⟨Nat.le_refl _, ok_says hI (by simp only [execOp, ho]) (un_rel (opd_rel hA hu) h) hH⟩
  · -- convert
    rename_i s t x ho
    have hcr : creates o = true := by simp [creates, ho]
    replace h := needD_some h
    obtain ⟨d, hdst, h⟩ := h
    replace h := bind_some' h
    obtain ⟨u, hu, h⟩ := h
    have hnx' := aConvert_nx h
    exact ⟨by rw [hnx']; exact Nat.le_refl _, ok_does (by simp only [execOp, ho]) (convert_rel hI (hd d hdst hcr) hH (.inl ⟨hcr, d, hdst, rfl⟩) (opd_rel hA hu) h)⟩
  · -- makeFunc
    rename_i fn first captured ho
    split at h
    · rename_i fs cs hf hc
      injection h with h
      injection h with h1 h2
      subst h1; subst h2
      have l1 := (opds_rel hA hf).lr
      have l2 := (opds_rel hA hc).lr
      refine ⟨Nat.le_refl _, ok_says (s := Instr.makeFunc fn (first.map ca.eval) (captured.map ca.eval)) hI (by simp only [execOp, ho]) ⟨.func fn (first.map ca.eval) (captured.map ca.eval), by simp [Instr.makeFunc], ?_⟩ hH⟩
      refine .fn fn fs cs _ _ (by have := l1.1; simpa using this) (by have := l2.1; simpa using this) (fun j x u hx hu => l1.2 j x u hx ?_) (fun j x u hx hu => l2.2 j x u hx ?_)
      · simpa using hu
      · simpa using hu
    · cases h
  · -- makeSlice
    rename_i t l cp ho
    have hcr : creates o = true := by simp [creates, ho]
    replace h := needD_some h
    obtain ⟨d, hdst, h⟩ := h
    replace h := bind_some' h
    obtain ⟨lv, hl, h⟩ := h
    replace h := bind_some' h
    obtain ⟨cv, hc, h⟩ := h
    have hnx' : H'.nx = H.nx := by
      unfold aMakeSlice at h
      repeat' (split at h)
      all_goals first | (injection h with h; injection h with h1 h2; rw [← h2]; rfl) | cases h
    exact ⟨by rw [hnx']; exact Nat.le_refl _, ok_does (s := Instr.makeSlice t (.int .i64 lv) (.int .i64 cv)) (by simp only [execOp, ho, opdI_rel hA hl, opdI_rel hA hc]) (make_rel hI (hd d hdst hcr) hH (.inl ⟨hcr, d, hdst, rfl⟩) h)⟩
  · -- slice
    rename_i t x lo hi ho
    replace h := bind_some' h
    obtain ⟨u, hu, h⟩ := h
    replace h := bind_some' h
    obtain ⟨l, hl, h⟩ := h
    replace h := bind_some' h
    obtain ⟨hh, hhi, h⟩ := h
    replace h := mapH h
    obtain ⟨h, rfl⟩ := h
    exact ⟨Nat.le_refl _, ok_says (s := Instr.sliceAt t (ca.eval x) (bV l) (bV hh) none) hI (by simp only [execOp, ho, opdB_rel hA hl, opdB_rel hA hhi]; rfl) (slice_rel (opd_rel hA hu) h) hH⟩
  · -- fieldAddr
    rename_i t x f ho
    cases hx : opd a x with
    | none => rw [hx] at h; cases h
    | some u =>
      rw [hx] at h
      obtain ⟨h1, h2⟩ := fieldAddr_rel (v := v) (opd_rel hA hx) h
      dsimp only at h1 h2
      subst h2
      exact ⟨Nat.le_refl _, ok_says hI (by simp only [execOp, ho]) h1 hH⟩
  · -- field
    rename_i t x f ho
    cases hx : opd a x with
    | none => rw [hx] at h; cases h
    | some u =>
      rw [hx] at h
      obtain ⟨h1, h2⟩ := field_rel (v := v) (opd_rel hA hx) h
      dsimp only at h1 h2
      subst h2
      exact ⟨Nat.le_refl _, ok_says hI (by simp only [execOp, ho]) h1 hH⟩
  · -- indexAddr
    rename_i t x i ho
    replace h := bind_some' h
    obtain ⟨u, hu, h⟩ := h
    replace h := bind_some' h
    obtain ⟨j, hj, h⟩ := h
    replace h := mapH h
    obtain ⟨h, rfl⟩ := h
    exact ⟨Nat.le_refl _, ok_says (s := Instr.indexAt t (ca.eval x) (.int .i64 j)) hI (by simp only [execOp, ho, opdI_rel hA hj]) (indexAddr_rel (opd_rel hA hu) h) hH⟩
  · -- index
    rename_i t x i ho
    replace h := bind_some' h
    obtain ⟨u, hu, h⟩ := h
    replace h := bind_some' h
    obtain ⟨j, hj, h⟩ := h
    replace h := mapH h
    obtain ⟨h, rfl⟩ := h
    exact ⟨Nat.le_refl _, ok_says (s := Instr.index t (ca.eval x) (.int .i64 j)) hI (by simp only [execOp, ho, opdI_rel hA hj]) (index_rel (opd_rel hA hu) h) hH⟩
  · -- extract
    rename_i t i ho
    split at h
    · rename_i vs hx
      replace h := mapH h
      obtain ⟨h, rfl⟩ := h
      have hv := opd_rel hA hx
      obtain ⟨us, e, hl, hh⟩ := hv.tup_
      have hi : i < us.size := by have := (List.getElem?_eq_some_iff.1 h).1; omega
      refine ⟨Nat.le_refl _, ok_says (s := Instr.extract (ca.eval t) i) hI (by simp only [execOp, ho]) ⟨us[i], ?_, hh i v us[i] h (by simp [hi])⟩ hH⟩
      rw [e]
      simp [Instr.extract, hi]
    · cases h
  · -- call
    rename_i cl ho
    replace h := bind_some' h
    obtain ⟨args, hargs, h⟩ := h
    have hl := opds_rel hA hargs
    have harr : (cl.args.map ca.eval) = (cl.args.toList.map ca.eval).toArray := Array.toList_inj.1 (by simp)
    have hb : ∀ {b : Builtin}, cl.callee = .builtin b → ∀ (r : Sem Next), builtin b cl.argTypes o.type (cl.args.map fun | .const _ => true | _ => false) (cl.args.map ca.eval) = r → execOp ca.eval o = r := fun hcal r hr => by
      rw [← hr]
      simp only [execOp, ho, resolve, hcal, pure_bind, invoke]
      rfl
    split at h
    · -- a function's value
      rename_i f hcal
      replace h := bind_some' h
      obtain ⟨fv, hf, h⟩ := h
      unfold aCall at h
      split at h
      · rename_i g first captured
        have hfv := opd_rel hA hf
        obtain ⟨us, vs, e, l1, l2, h1, h2⟩ := hfv.fn_
        have hall : LR (VR c) (first ++ args ++ captured) (us.toList ++ cl.args.toList.map ca.eval ++ vs.toList) := ((LR.array l1 h1).append hl.lr).append (LR.array l2 h2)
        have hrun : EnterOk E.P g → (execOp ca.eval o).run E.P c.w = .ok (.enter g (us.toList ++ cl.args.toList.map ca.eval ++ vs.toList).toArray) c.w := fun hE => by
          have : (us.toList ++ cl.args.toList.map ca.eval ++ vs.toList).toArray = us ++ cl.args.map ca.eval ++ vs := by
            apply Array.toList_inj.1
            simp
          rw [this]
          simp only [execOp, ho, resolve, hcal, e, Deferred.ofValue, Sem.run_bind, Sem.run_pure, invoke]
          exact run_enter hE _ _
        dsimp only at h
        split at h
        · rename_i sc hm
          replace h := bind_some' h
          obtain ⟨r, hr, h⟩ := h
          obtain ⟨hE, hn, hc⟩ := pure_call hI hP hH hr h hall
          exact ⟨by rw [hn]; exact Nat.le_refl _, ok_call (hrun hE) (fun t ht => .inr ht) hc⟩
        · rename_i sc hm
          replace h := bind_some' h
          obtain ⟨r, hr, h⟩ := h
          obtain ⟨hE, hn, hc⟩ := pure_call hI hX hH hr h hall
          exact ⟨by rw [hn]; exact Nat.le_refl _, ok_call (hrun hE) (fun t ht => .inr ht) hc⟩
        · rename_i frz hm
          obtain ⟨p, hp, hh⟩ : ∃ p, callR g (first ++ args ++ captured) H = some p ∧ freezeR frz p.1 p.2 = (v, H') := by
            cases hs : callR g (first ++ args ++ captured) H with
            | none => rw [hs] at h; cases h
            | some p => rw [hs] at h; simp only [Option.map_some] at h; injection h with h; exact ⟨p, rfl, h⟩
          obtain ⟨hE, hn, hc⟩ := raw_call (frz := frz) hI hR hH hnx (show callR g _ H = some (p.1, p.2) from hp) hall
          rw [hh] at hn hc
          exact ⟨hn, ok_call (hrun hE) (fun t ht => .inr ht) hc⟩
      · cases h
    · -- len
      rename_i hcal
      split at h
      · rename_i x
        replace h := mapH h
        obtain ⟨h, rfl⟩ := h
        obtain ⟨cx, hcx, hx⟩ := one_arg hl
        generalize hg : cl.argTypes.getD 0 0 = ty0 at h
        split at h
        · rename_i h0
          rw [hH.symm] at h
          obtain ⟨rest, hts⟩ := array1 (d := 0) h0
          rw [hg] at hts
          refine ⟨Nat.le_refl _, ok_says hI (hb hcal _ rfl) ?_ hH⟩
          rw [harr, hcx, hts]
          exact len_rel hx h
        · cases h
      · cases h
    · -- append
      rename_i hcal
      split at h
      · rename_i s x
        split at h
        · rename_i h2
          have hcr : creates o = true := by simp [creates, ho, hcal]
          replace h := needD_some h
          obtain ⟨d, hdst, h⟩ := h
          obtain ⟨cs, cx, hcx, hs, hx⟩ := two_args hl
          refine ⟨by rw [aAppend_nx h]; exact Nat.le_refl _, ok_does (hb hcal _ rfl) ?_⟩
          rw [harr, hcx, array2 (d := 0) h2]
          exact append_rel hI (hd d hdst hcr) hH (.inl ⟨hcr, d, hdst, rfl⟩) hs hx h
        · cases h
      · cases h
    · -- copy
      rename_i hcal
      split at h
      · rename_i s x
        generalize hg : cl.argTypes.getD 0 0 = ty0 at h
        split at h
        · rename_i h0
          obtain ⟨cs, cx, hcx, hs, hx⟩ := two_args hl
          obtain ⟨rest, hts⟩ := array1 (d := 0) h0
          rw [hg] at hts
          refine ⟨by rw [aCopy_nx h]; exact Nat.le_refl _, ok_does (hb hcal _ rfl) ?_⟩
          rw [harr, hcx, hts]
          exact copy_rel (xt := 0) hI hH hs hx h
        · cases h
      · cases h
    · -- max
      rename_i hcal
      replace h := mapH h
      obtain ⟨h, rfl⟩ := h
      refine ⟨Nat.le_refl _, ok_says hI (hb hcal _ rfl) ?_ hH⟩
      rw [harr]
      exact max_rel hl h
    · rename_i hcal
      replace h := mapH h
      obtain ⟨h, rfl⟩ := h
      refine ⟨Nat.le_refl _, ok_says hI (hb hcal _ rfl) ?_ hH⟩
      rw [harr]
      exact min_rel hl h
    · cases h
  · cases h
end

end Go.Proofs.Ytcaemgpificohaa.A
