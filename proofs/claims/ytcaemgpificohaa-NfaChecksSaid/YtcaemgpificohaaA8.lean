/- A, part 8: operations that look into memory, make it, write it. -/
import Derived.Test.YtcaemgpificohaaA7
import Derived.Laws.Append
import Derived.Laws.MakeOwn
import Derived.Laws.Slices
import Derived.Laws.Strings2
import Derived.Laws.BytesArg
set_option linter.unusedVariables false
set_option linter.unusedSimpArgs false
set_option linter.unnecessarySimpa false
namespace Go.Proofs.Ytcaemgpificohaa.A
open Go

/-- What a piece of the machine does: it answers what is related to v, and leaves the heap Ho. -/
def Does (P : Program) (c : Ctx) (N : Tag → Prop) (s : Sem Value) (v : AV) (Ho : Tag → Option AObj) : Prop :=
  ∃ cv c', s.run P c.w = .ok cv c'.w ∧ Inv c' ∧ Step c c' ∧ c'.H = Ho ∧ (∀ t, c'.T t → c.T t ∨ N t) ∧ VR c' v cv
def DoesU (P : Program) (c : Ctx) (N : Tag → Prop) (s : Sem Unit) (Ho : Tag → Option AObj) : Prop :=
  ∃ c', s.run P c.w = .ok () c'.w ∧ Inv c' ∧ Step c c' ∧ c'.H = Ho ∧ (∀ t, c'.T t → c.T t ∨ N t)

section
variable {P : Program} {c : Ctx} {N : Tag → Prop}
theorem Says.does (hI : Inv c) {s : Sem Value} {v : AV} {Ho : Tag → Option AObj} (h : Says P c s v) (hH : c.H = Ho) : Does P c N s v Ho := by
  obtain ⟨cv, h1, h2⟩ := h
  exact ⟨cv, c, h1, hI, Step.refl c, hH, fun t ht => .inl ht, h2⟩

theorem asI_rel {x : AV} {i : Int} {v : Value} (hx : VR c x v) (h : asI x = some i) : v = .int .i64 i := by
  unfold asI at h
  split at h
  · injection h with h; subst h; exact hx.int_
  · cases h

theorem tField_some {t : TypeId} {f o : Nat} {ft : TypeId} (h : tField P t f = some (o, ft)) : ∃ fs x, P.underlying t = some (.struct fs) ∧ fs[f]? = some x ∧ x.offset = o ∧ x.type = ft := by
  unfold tField at h
  split at h
  · rename_i fs hu
    cases hf : fs[f]? with
    | none => rw [hf] at h; cases h
    | some x => rw [hf] at h; simp at h; exact ⟨fs, x, hu, hf, h.1, h.2⟩
  · cases h
theorem tSizeD_run {t : TypeId} (h : (tSize P t).getD 0 ≠ 0) (w : World) : ∃ n, n ≠ 0 ∧ (sizeOf t).run P w = .ok n w := by
  cases hs : tSize P t with
  | none => rw [hs] at h; exact absurd rfl h
  | some n => rw [hs] at h; exact ⟨n, h, tSize_run hs w⟩
theorem fieldAt_run {t : TypeId} {f o : Nat} {ft : TypeId} (h : tField P t f = some (o, ft)) (hz : (tSize P ft).getD 0 ≠ 0) (a : Addr) (w : World) : (Instr.fieldAt t (.pointer (some a)) f).run P w = .ok (.pointer (some (a.add o))) w := by
  obtain ⟨fs, x, hu, hf, rfl, rfl⟩ := tField_some h
  obtain ⟨n, hn, hs⟩ := tSizeD_run hz w
  simp [Instr.fieldAt, run_underlying hu, hf, Instr.sureAddr, fieldPlace, hs, hn]

theorem fptr_drop {cs : List AV} {a : Addr} {o : Nat} (h : VR c (.fptr cs) (.pointer (some a))) : VR c (.fptr (cs.drop o)) (.pointer (some (a.add o))) := by
  obtain ⟨a', e, hS, hc⟩ := h.fptr_
  injection e with e
  injection e with e
  subst e
  have hex : ∀ j, ∃ u : Value, ∀ x, (cs.drop o)[j]? = some x → c.w.cell? ((a.add o).add j) = some u ∧ u.oneCell' = true ∧ PR c.S c.w x u := fun j => by
    rw [List.getElem?_drop]
    cases hx : cs[o + j]? with
    | none => exact ⟨undef, fun x h => by cases h⟩
    | some x =>
      obtain ⟨u, h1, h2, h3⟩ := hc _ x hx
      refine ⟨u, fun y hy => ?_⟩
      injection hy with hy
      subst hy
      rw [add_add]
      exact ⟨h1, h2, h3⟩
  obtain ⟨u, hu⟩ := Classical.axiomOfChoice hex
  refine .data _ _ (.fptr _ _ u (fun hne => ?_) (fun j x hx => (hu j x hx).1) (fun j x hx => (hu j x hx).2.1) (fun j x hx => (hu j x hx).2.2))
  rw [add_block]
  refine hS fun e => hne ?_
  rw [e]; simp

theorem fieldAddr_rel {t : TypeId} {f : Nat} {x v : AV} {xv : Value} {H : AH} {r : AV × AH} (hx : VR c x xv)
    (h : (match some x, tField P t f with
      | some (.ptr k g off), some (o', ft) => if (tSize P ft).getD 0 = 0 then none else some (AV.ptr k g (off + o'), H)
      | some (.fptr cs), some (o', ft) => if (tSize P ft).getD 0 = 0 then none else some (.fptr (cs.drop o'), H)
      | _, _ => none) = some r) : Says P c (Instr.fieldAt t xv f) r.1 ∧ r.2 = H := by
  split at h
  · rename_i k g off o' ft e hf
    injection e with e
    subst e
    split at h
    · cases h
    · rename_i hz
      injection h with h; subst h
      obtain ⟨hk, hg, a, rfl, ha⟩ := hx.ptr_
      refine ⟨⟨_, fieldAt_run hf hz a c.w, .ptr k g _ _ hk hg fun r hr hgen => ?_⟩, rfl⟩
      have := ha r (by unfold aRow; rw [hr]; simp [hgen])
      rw [this, plain_add]
  · rename_i cs o' ft e hf
    injection e with e
    subst e
    split at h
    · cases h
    · rename_i hz
      injection h with h; subst h
      obtain ⟨a, rfl, _⟩ := hx.fptr_
      exact ⟨⟨_, fieldAt_run hf hz a c.w, fptr_drop hx⟩, rfl⟩
  · cases h

theorem tElem_some {t e : TypeId} (h : tElem P t = some e) : P.underlying t = some (.slice e) := by
  unfold tElem at h
  split at h
  · rename_i hu; injection h with h; subst h; exact hu
  · cases h
theorem tArray_some {t e : TypeId} {n : Nat} (h : tArray P t = some (n, e)) : P.underlying t = some (.array n e) := by
  unfold tArray at h
  split at h
  · rename_i hu; injection h with h; injection h with h1 h2; subst h1; subst h2; exact hu
  · cases h
theorem elemSize {t : TypeId} {s : Nat} (h : (tElem P t).bind (tSize P) = some s) : ∃ e, P.underlying t = some (.slice e) ∧ tSize P e = some s := by
  cases he : tElem P t with
  | none => rw [he] at h; cases h
  | some e => rw [he] at h; exact ⟨e, tElem_some he, h⟩

theorem indexSlice_run {t e : TypeId} {s : Nat} (hu : P.underlying t = some (.slice e)) (hs : tSize P e = some s) (a : Addr) (n cap : Nat) (i : Int) (h0 : 0 ≤ i) (h1 : i < n) (w : World) :
    (Instr.indexAt t (.slice (some a) n cap) (.int .i64 i)).run P w = .ok (.pointer (some (a.add (i.toNat * s)))) w := by
  simp [Instr.indexAt, asIntOf, run_underlying hu, h0, h1, tSize_run hs]
theorem indexArray_run {t e : TypeId} {s n : Nat} (hu : P.underlying t = some (.array n e)) (hs : tSize P e = some s) (a : Addr) (i : Int) (h0 : 0 ≤ i) (h1 : i < n) (w : World) :
    (Instr.indexAt t (.pointer (some a)) (.int .i64 i)).run P w = .ok (.pointer (some (a.add (i.toNat * s)))) w := by
  simp [Instr.indexAt, asIntOf, run_underlying hu, h0, h1, tSize_run hs, Instr.sureAddr]

theorem indexAddr_rel {t : TypeId} {x v : AV} {i : Int} {xv : Value} (hx : VR c x xv) (h : aIndexAddr P t x i = some v) : Says P c (Instr.indexAt t xv (.int .i64 i)) v := by
  unfold aIndexAddr at h
  split at h
  · rename_i n cs
    split at h
    · rename_i s hs
      split at h
      · rename_i hb
        injection h with h; subst h
        obtain ⟨e, hu, hs'⟩ := elemSize hs
        obtain ⟨A, cap, rfl, hn, hA0, hA, hc⟩ := hx.sl_
        by_cases hne : cs = []
        · subst hne
          obtain ⟨a, rfl⟩ := hA0 (by omega)
          exact ⟨_, indexSlice_run hu hs' a n cap i hb.1 hb.2 c.w, .data _ _ (.fptr _ _ (fun _ => undef) (fun hh => by simp at hh) (fun j x hx => by simp at hx) (fun j x hx => by simp at hx) (fun j x hx => by simp at hx))⟩
        · obtain ⟨a, rfl, hSa⟩ := hA hne
          have hf : VR c (.fptr cs) (.pointer (some a)) := by
            have hex : ∀ j, ∃ u : Value, ∀ x, cs[j]? = some x → c.w.cell? (a.add j) = some u ∧ u.oneCell' = true ∧ PR c.S c.w x u := fun j => by
              cases hx : cs[j]? with
              | none => exact ⟨undef, fun x h => by cases h⟩
              | some x =>
                obtain ⟨u, h1⟩ := hc a _ x rfl hx
                exact ⟨u, fun y hy => by injection hy with hy; subst hy; exact h1⟩
            obtain ⟨u, hu'⟩ := Classical.axiomOfChoice hex
            exact .data _ _ (.fptr _ _ u (fun _ => hSa) (fun j x hx => (hu' j x hx).1) (fun j x hx => (hu' j x hx).2.1) (fun j x hx => (hu' j x hx).2.2))
          exact ⟨_, indexSlice_run hu hs' a n cap i hb.1 hb.2 c.w, fptr_drop hf⟩
      · cases h
    · cases h
  · rename_i k g off n
    split at h
    · rename_i s hs
      split at h
      · rename_i hb
        injection h with h; subst h
        obtain ⟨e, hu, hs'⟩ := elemSize hs
        obtain ⟨hk, hg, A, cap, rfl, hn, hA, hr⟩ := hx.ref_
        obtain ⟨a, rfl⟩ := hA (.inr (by omega))
        refine ⟨_, indexSlice_run hu hs' a n cap i hb.1 hb.2 c.w, .ptr k g _ _ hk hg fun r hr' hgen => ?_⟩
        obtain ⟨hh, _⟩ := hr r (by unfold aRow; rw [hr']; simp [hgen])
        have := hh (.inr (by omega))
        injection this with this
        rw [this, plain_add]
      · cases h
    · cases h
  · rename_i cs
    split at h
    · rename_i n e ha
      split at h
      · rename_i s hs
        split at h
        · rename_i hb
          injection h with h; subst h
          obtain ⟨a, rfl, _⟩ := hx.fptr_
          exact ⟨_, indexArray_run (tArray_some ha) hs a i hb.1 hb.2 c.w, fptr_drop hx⟩
        · cases h
      · cases h
    · cases h
  · rename_i k g off
    split at h
    · rename_i n e ha
      split at h
      · rename_i s hs
        split at h
        · rename_i hb
          injection h with h; subst h
          obtain ⟨hk, hg, a, rfl, hr⟩ := hx.ptr_
          refine ⟨_, indexArray_run (tArray_some ha) hs a i hb.1 hb.2 c.w, .ptr k g _ _ hk hg fun r hr' hgen => ?_⟩
          rw [hr r (by unfold aRow; rw [hr']; simp [hgen]), plain_add]
        · cases h
      · cases h
    · cases h
  · cases h
end

end Go.Proofs.Ytcaemgpificohaa.A
