/- A, part 18: regions, in text order and in any order. -/
import Derived.Test.YtcaemgpificohaaA17
set_option linter.unusedVariables false
set_option linter.unusedSimpArgs false
set_option linter.unnecessarySimpa false
namespace Go.Proofs.Ytcaemgpificohaa.A
open Go

section
variable {E : Env} {cp : CallP} {cr : CallR} {st : Nat} {ops : Array Oper}

theorem yielded_rel {c : Ctx} {a : AAct} {ca : Act} (hA : AR c a ca) {j : Nat} {y : Option Bool} (h : yieldedA ops a j = some y) : yielded ops ca.tmps j = y := by
  unfold yieldedA at h
  unfold yielded
  cases hd : (ops[j]?).bind (·.dst) with
  | none => rw [hd] at h; injection h with h
  | some d =>
    rw [hd] at h
    dsimp only at h
    have hs := hA.slot d
    simp only [Option.bind_some]
    have key : ∀ b, ca.tmps[d]? = some (.bool b) → VR c (a d) (.bool b) := fun b hb => by
      simpa [Array.getD_eq_getD_getElem?, hb] using hs
    cases ha : a d with
    | bool b =>
      rw [ha] at h hs
      injection h with h; subst h
      have hv := hs.bool_
      cases ht : ca.tmps[d]? with
      | none => simp [Array.getD_eq_getD_getElem?, ht, undef] at hv
      | some u => simp [Array.getD_eq_getD_getElem?, ht] at hv; subst hv; rfl
    | und => rw [ha] at h; cases h
    | mp => rw [ha] at h; cases h
    | _ =>
      rw [ha] at h
      injection h with h; subst h
      split
      · rename_i b hb
        have hv := key b hb
        rw [ha] at hv
        cases hv with
        | data _ _ hv => cases hv
      · rfl
theorem wanted_rel {c : Ctx} {a : AAct} {ca : Act} (hA : AR c a ca) {o : Oper} {b : Bool} (h : wantedA ops a o = some b) : Region.wanted o (yielded ops ca.tmps) = b := by
  unfold wantedA at h
  unfold Region.wanted
  cases hg : o.guard with
  | none => rw [hg] at h; injection h
  | some gw =>
    obtain ⟨g, want⟩ := gw
    rw [hg] at h
    dsimp only at h ⊢
    cases hy : yieldedA ops a g with
    | none => rw [hy] at h; cases h
    | some y =>
      rw [hy] at h
      simp only [Option.map_some] at h
      injection h with h
      rw [yielded_rel hA hy, h]

/-- Where a run stands within a region. N: what may have been named since the region's beginning. -/
structure At (P : Program) (ops : Array Oper) (st n : Nat) (T0 : Tag → Prop) (nx0 : Nat) (L : List Nat) (c : Ctx) (a : AAct) (ca : Act) (H : AH) : Prop where
  inv : Inv c
  heap : c.H = H.o
  act : AR c a ca
  size : ca.tmps.size = n
  lt : st < H.nx
  nx : ∀ t, c.T t → t.1 < H.nx
  old : ∀ t, c.T t → T0 t ∨ nx0 ≤ t.1
  fresh : ∀ i ∈ L, ∀ o d, ops[i]? = some o → creates o = true → o.dst = some d → ¬ c.T (st, d)

theorem noClash : ∀ {l : List Oper} {i j : Nat} {x y : Oper}, newsOk l = true → i < j → l[i]? = some x → l[j]? = some y → clash x y = false
  | [], i, j, x, y, _, _, h, _ => by simp at h
  | z :: l, i, j, x, y, h, hij, hx, hy => by
    simp only [newsOk, Bool.and_eq_true, List.all_eq_true, Bool.not_eq_true'] at h
    cases j with
    | zero => omega
    | succ j =>
      simp only [List.getElem?_cons_succ] at hy
      cases i with
      | zero =>
        simp only [List.getElem?_cons_zero, Option.some.injEq] at hx
        subst hx
        exact h.1 y (List.mem_of_getElem? hy)
      | succ i => exact noClash (i := i) (j := j) h.2 (by omega) (by simpa using hx) hy
theorem clash_symm (x y : Oper) (h : clash x y = false) : clash y x = false := by
  unfold clash at *
  by_cases hx : creates x = true <;> by_cases hy : creates y = true <;> simp_all
  intro h1 h2
  have : x.dst.isSome = true := by rw [← h2]; exact h1
  simp [this, h2] at h

theorem step_sound (hP : CPSound E.P cp) (hX : CPSound E.P E.ext) (hR : CRSound E.P cr) (hn : newsOk ops.toList = true) {n nx0 : Nat} {T0 : Tag → Prop} {i : Nat} {L : List Nat} {o : Oper} {c : Ctx} {a : AAct} {ca : Act} {H H1 : AH} {v : AV} (ho : ops[i]? = some o)
    (hd : ∀ d, o.dst = some d → d < n) (h0 : nx0 ≤ st) (hat : At E.P ops st n T0 nx0 (i :: L) c a ca H) (hL : i ∉ L) (h : stepV E cp cr st ops o a H = some (v, H1)) {K : Act → World → Prop} {Q : Exit → Act → World → Prop}
    (hK : ∀ c' ca', Step c c' → At E.P ops st n T0 nx0 L c' (putO a o.dst v) ca' H1 → K ca' c'.w) : wpOp E.P ops Q i K ca c.w := by
  unfold wpOp
  simp only [ho]
  unfold stepV at h
  have hdn : ∀ d, o.dst = some d → d < ca.tmps.size := fun d hd' => by rw [hat.size]; exact hd d hd'
  split at h
  · rename_i hw
    rw [wanted_rel hat.act hw, if_pos rfl]
    obtain ⟨hle, hok⟩ := evalOp_sound (K := K) (Q := Q) hP hX hR hat.inv hat.heap hat.act hat.nx (fun d hd' hc => hat.fresh i (List.mem_cons_self ..) o d ho hc hd') h
    refine .inl (hok fun c' cv hi hs hH hT hv => hK c' _ hs ?_)
    refine ⟨hi, hH, (hat.act.mono hs.mono).put o.dst hdn hv, by rw [put_size, hat.size], Nat.lt_of_lt_of_le hat.lt hle, fun t ht => ?_, fun t ht => ?_, fun j hj y d hy hc hdst ht => ?_⟩
    · rcases hT t ht with h1 | ⟨_, d, _, rfl⟩ | ⟨_, h1⟩
      · exact Nat.lt_of_lt_of_le (hat.nx t h1) hle
      · exact Nat.lt_of_lt_of_le hat.lt hle
      · exact h1
    · rcases hT t ht with h1 | ⟨_, d, _, rfl⟩ | ⟨h1, _⟩
      · exact hat.old t h1
      · exact .inr h0
      · exact .inr (Nat.le_trans h0 (Nat.le_trans (Nat.le_of_lt hat.lt) h1))
    · rcases hT _ ht with h1 | ⟨hc', d', hdst', e⟩ | ⟨h1, _⟩
      · exact hat.fresh j (List.mem_cons_of_mem _ hj) y d hy hc hdst h1
      · have hij : i ≠ j := fun e => hL (by rw [e]; exact hj)
        injection e with _ e
        have hcl : clash o y = false := by
          rcases Nat.lt_or_gt_of_ne hij with h2 | h2
          · exact noClash hn h2 (by simpa using ho) (by simpa using hy)
          · exact clash_symm _ _ (noClash hn h2 (by simpa using hy) (by simpa using ho))
        subst e
        simp [clash, hc, hc', hdst, hdst'] at hcl
      · have := hat.lt
        simp only at h1
        omega
  · rename_i hw
    rw [wanted_rel hat.act hw]
    injection h with h
    injection h with h1 h2
    subst h1; subst h2
    simp only [Bool.false_eq_true, if_false]
    exact hK c _ (Step.refl c) ⟨hat.inv, hat.heap, hat.act.put o.dst hdn (VR.noV_ c), by rw [put_size, hat.size], hat.lt, hat.nx, hat.old, fun j hj => hat.fresh j (List.mem_cons_of_mem _ hj)⟩
  · cases h

theorem At.perm {n nx0 : Nat} {T0 : Tag → Prop} {L L' : List Nat} {c : Ctx} {a : AAct} {ca : Act} {H : AH} (h : At E.P ops st n T0 nx0 L c a ca H) (hp : ∀ i ∈ L', i ∈ L) : At E.P ops st n T0 nx0 L' c a ca H :=
  ⟨h.inv, h.heap, h.act, h.size, h.lt, h.nx, h.old, fun i hi => h.fresh i (hp i hi)⟩

/-- The operations of a list, one after the other. -/
theorem list_sound (hP : CPSound E.P cp) (hX : CPSound E.P E.ext) (hR : CRSound E.P cr) (hn : newsOk ops.toList = true) {n nx0 : Nat} {T0 : Tag → Prop} (hd : ∀ (i : Nat) (o : Oper) (d : Nat), ops[i]? = some o → o.dst = some d → d < n) (h0 : nx0 ≤ st) {F : Nat → FP} {Q : Exit → Act → World → Prop} :
    ∀ {L : List Nat} {c : Ctx} {a a' : AAct} {ca : Act} {H H' : AH}, L.Nodup → At E.P ops st n T0 nx0 L c a ca H → Runs E cp cr st ops F L a H a' H' → (∀ c' ca', Step c c' → At E.P ops st n T0 nx0 [] c' a' ca' H' → Q .normal ca' c'.w) → wpOps E.P ops Q L ca c.w
  | [], c, a, a', ca, H, H', _, hat, hr, hQ => by
    obtain ⟨rfl, rfl⟩ := hr
    exact hQ c ca (Step.refl c) hat
  | i :: L, c, a, a', ca, H, H', hnd, hat, hr, hQ => by
    obtain ⟨o, v, H1, ho, hs, _, hr⟩ := hr
    rw [wpOps_cons]
    have hnd' := List.nodup_cons.1 hnd
    exact step_sound hP hX hR hn ho (fun d hd' => hd i o d ho hd') h0 hat hnd'.1 hs fun c1 ca1 hs1 hat1 =>
      list_sound hP hX hR hn hd h0 hnd'.2 hat1 hr fun c' ca' hs' hat' => hQ c' ca' (hs1.trans hs') hat'

/-! ### any order -/
/-- What a table of ancestors says. -/
structure Anc (ops : Array Oper) (B : Nat → List Nat) : Prop where
  lt : ∀ (j : Nat) (y : Oper) (e : Edge), ops[j]? = some y → e ∈ y.after → Region.binds .any e = true → e.on < j
  up : ∀ (j : Nat) (y : Oper) (i : Nat), ops[j]? = some y → i ∈ B j → ∃ e ∈ y.after, Region.binds .any e = true ∧ (i = e.on ∨ i ∈ B e.on)

theorem any_sound (hP : CPSound E.P cp) (hX : CPSound E.P E.ext) (hR : CRSound E.P cr) (hn : newsOk ops.toList = true) {n nx0 : Nat} {T0 : Tag → Prop} (hd : ∀ (i : Nat) (o : Oper) (d : Nat), ops[i]? = some o → o.dst = some d → d < n) (h0 : nx0 ≤ st) {F : Nat → FP} {B : Nat → List Nat} (hB : Anc ops B)
    (hF : ∀ i j, i < j → i ∉ B j → Free ops F i j) {Q : Exit → Act → World → Prop} :
    ∀ (fuel : Nat) {L : List Nat} {listed : Array Bool} {c : Ctx} {a a' : AAct} {ca : Act} {H H' : AH}, L.length = fuel → L.Pairwise (· < ·) → listed.size = ops.size → (∀ i, i ∈ L ↔ listed.getD i true = false) →
      (∀ j, listed.getD j false = true → ∀ i ∈ B j, listed.getD i false = true) → At E.P ops st n T0 nx0 L c a ca H → Runs E cp cr st ops F L a H a' H' →
      (∀ c' ca', Step c c' → At E.P ops st n T0 nx0 [] c' a' ca' H' → Q .normal ca' c'.w) → wpAny E.P .any ops Q fuel listed ca c.w
  | fuel, L, listed, c, a, a', ca, H, H', hlen, hsort, hsz, hmem, hclosed, hat, hr, hQ => by
    have hbool : ∀ j, j < ops.size → (listed.getD j false = true ↔ j ∉ L) := fun j hj => by
      rw [hmem]
      have hj' : j < listed.size := by omega
      simp [hj']
    have hready : ∀ j, j ∈ Region.ready .any ops listed ↔ j ∈ L ∧ ∃ o, ops[j]? = some o ∧ ∀ e ∈ o.after, Region.binds .any e = true → listed.getD e.on false = true := fun j => by rw [mem_ready, hmem]
    cases fuel with
    | zero =>
      have hL : L = [] := List.eq_nil_of_length_eq_zero hlen
      subst hL
      obtain ⟨rfl, rfl⟩ := hr
      refine ⟨List.eq_nil_iff_forall_not_mem.2 fun j hj => ?_, hQ c ca (Step.refl c) hat⟩
      have := ((hready j).1 hj).1
      cases this
    | succ fuel =>
      refine ⟨fun hnil => ?_, fun j hj => ?_⟩
      · -- the least of the rest is ready
        cases L with
        | nil => cases hlen
        | cons i L =>
          exfalso
          obtain ⟨o, v, H1, ho, _, _, _⟩ := hr
          have : i ∈ Region.ready .any ops listed := (hready i).2 ⟨List.mem_cons_self .., o, ho, fun e he hb => ?_⟩
          · rw [hnil] at this; cases this
          · have hlt := hB.lt i o e ho he hb
            have hi : i < ops.size := (Array.getElem?_eq_some_iff.1 ho).1
            rw [hbool e.on (by omega)]
            intro hm
            rcases List.mem_cons.1 hm with h1 | h1
            · omega
            · have := (List.pairwise_cons.1 hsort).1 _ h1
              omega
      · obtain ⟨hjL, o, ho, hafter⟩ := (hready j).1 hj
        obtain ⟨L1, L2, rfl⟩ := List.append_of_mem hjL
        have hjs : j < ops.size := (Array.getElem?_eq_some_iff.1 ho).1
        have hBj : ∀ i ∈ B j, listed.getD i false = true := fun i hi => by
          obtain ⟨e, he, hb, h1 | h1⟩ := hB.up j o i ho hi
          · rw [h1]; exact hafter e he hb
          · exact hclosed e.on (hafter e he hb) i h1
        have hsort' := List.pairwise_append.1 hsort
        have hL1 : ∀ i ∈ L1, i < j := fun i hi => hsort'.2.2 i hi j (List.mem_cons_self ..)
        have hfree : ∀ i ∈ L1, Free ops F i j := fun i hi => hF i j (hL1 i hi) fun hm => by
          have h1 := hBj i hm
          rw [hbool i (by have := hL1 i hi; omega)] at h1
          exact h1 (List.mem_append_left _ hi)
        have hnd : (L1 ++ j :: L2).Nodup := hsort.imp (fun h => Nat.ne_of_lt h)
        have hjn : j ∉ L1 ++ L2 := by
          rw [List.nodup_append] at hnd
          intro hm
          rcases List.mem_append.1 hm with h1 | h1
          · exact hnd.2.2 j h1 j (List.mem_cons_self ..) rfl
          · exact (List.nodup_cons.1 hnd.2.1).1 h1
        obtain ⟨o', v, H1, ho', hs, _, hr'⟩ := bubble hr hfree
        obtain rfl : o' = o := by rw [ho] at ho'; injection ho' with h; exact h.symm
        refine step_sound hP hX hR hn ho (fun d hd' => hd j o' d ho hd') h0 (hat.perm (L' := j :: (L1 ++ L2)) fun i hi => ?_) hjn hs fun c1 ca1 hs1 hat1 => ?_
        · simp only [List.mem_cons, List.mem_append] at hi ⊢
          rcases hi with h1 | h1 | h1
          · exact .inr (.inl h1)
          · exact .inl h1
          · exact .inr (.inr h1)
        · refine any_sound hP hX hR hn hd h0 hB hF fuel (L := L1 ++ L2) ?_ ?_ (by simpa using hsz) (fun i => ?_) (fun k hk i hi => ?_) hat1 hr' (fun c' ca' hs' hat' => hQ c' ca' (hs1.trans hs') hat')
          · simp at hlen ⊢
            omega
          · refine List.pairwise_append.2 ⟨hsort'.1, (List.pairwise_cons.1 hsort'.2.1).2, fun x hx y hy => hsort'.2.2 x hx y (List.mem_cons_of_mem _ hy)⟩
          · by_cases hij : j = i
            · subst hij
              refine ⟨fun h => absurd h hjn, fun h => ?_⟩
              have hj' : j < listed.size := by omega
              simp [hj'] at h
            · rw [getD_set_ne true hij, ← hmem]
              simp only [List.mem_append, List.mem_cons]
              constructor
              · rintro (h | h)
                · exact .inl h
                · exact .inr (.inr h)
              · rintro (h | h | h)
                · exact .inl h
                · exact absurd h.symm hij
                · exact .inr h
          · by_cases hjk : j = k
            · subst hjk
              exact getD_set_true (hBj i hi)
            · rw [getD_set_ne false hjk] at hk
              exact getD_set_true (hclosed k hk i hi)
end

end Go.Proofs.Ytcaemgpificohaa.A
