/- A, part 20: names are given upwards. -/
import Derived.Test.YtcaemgpificohaaA19
set_option linter.unusedVariables false
set_option linter.unusedSimpArgs false
set_option linter.unnecessarySimpa false
namespace Go.Proofs.Ytcaemgpificohaa.A
open Go

section
variable {E : Env} {cp : CallP} {cr : CallR} {st : Nat} {ops : Array Oper} {v : AV}

def Up (cr : CallR) : Prop := ∀ g as_ H v H', cr g as_ H = some (v, H') → H.nx ≤ H'.nx

theorem nx_map {x : Option AV} {H H' : AH} (h : (x.map (·, H)) = some (v, H')) : H.nx ≤ H'.nx := by rw [(mapH h).2]; exact Nat.le_refl _
theorem nx_eq {n m : Nat} (h : m = n) : n ≤ m := by rw [h]; exact Nat.le_refl _
theorem build_nx {P : Program} {tg : Tag} {t : TypeId} {len : Nat} {ps : List (Nat × AV)} {H H' : AH} (h : aBuildSlice P tg t len ps H = some (v, H')) : H'.nx = H.nx := by
  unfold aBuildSlice at h
  split at h
  · cases h
  · split at h
    · split at h
      · split at h
        · injection h with h; injection h with h1 h2; subst h2; rfl
        · cases h
      · cases h
    · cases h
theorem make_nx {P : Program} {tg : Tag} {t : TypeId} {l cp : Int} {H H' : AH} (h : aMakeSlice P tg t l cp H = some (v, H')) : H'.nx = H.nx := by
  unfold aMakeSlice at h
  split at h
  · cases h
  · split at h
    · split at h
      · injection h with h; injection h with h1 h2; subst h2; rfl
      · cases h
    · cases h
theorem freezeP_nx {sc : Bool} {as_ : List AV} {r : AV} {H H' : AH} (hf : freezeP sc as_ r H = some (v, H')) : H'.nx = H.nx := by
  unfold freezeP at hf
  split at hf
  · split at hf
    · injection hf with hf; injection hf with h1 h2; rw [← h2]
    · cases hf
  · injection hf with hf; injection hf with h1 h2; rw [← h2]
theorem freezeR_nx (frz : Bool) (r : AV) (H : AH) : (freezeR frz r H).2.nx = H.nx := by
  unfold freezeR
  split
  · dsimp only
    split <;> rfl
  · rfl

theorem call_nx (hR : Up cr) {fv : AV} {args : List AV} {H H' : AH} (h : aCall E cp cr fv args H = some (v, H')) : H.nx ≤ H'.nx := by
  unfold aCall at h
  split at h
  · dsimp only at h
    split at h
    · obtain ⟨r, _, h⟩ := bind_some' h
      exact nx_eq (freezeP_nx h)
    · obtain ⟨r, _, h⟩ := bind_some' h
      exact nx_eq (freezeP_nx h)
    · rename_i g first captured _ frz _
      cases hs : cr g (first ++ args ++ captured) H with
      | none => rw [hs] at h; cases h
      | some p =>
        rw [hs] at h
        simp only [Option.map_some] at h
        injection h with h
        have : (freezeR frz p.1 p.2).2 = H' := by rw [h]
        rw [← this, freezeR_nx]
        exact hR _ _ _ _ _ hs
  · cases h

theorem evalOp_nx (hR : Up cr) {o : Oper} {a : AAct} {H H' : AH} (h : evalOp E cp cr st o a H = some (v, H')) : H.nx ≤ H'.nx := by
  unfold evalOp at h
  split at h
  · exact nx_map h
  · exact nx_map h
  · split at h
    · exact nx_map h
    · exact nx_map h
    · cases h
  · split at h
    · injection h with h; injection h with h1 h2; subst h2; exact Nat.le_refl _
    · cases h
  · split at h
    · split at h
      · injection h with h; injection h with h1 h2; subst h2; exact Nat.le_refl _
      · cases h
    · cases h
  · obtain ⟨_, _, h⟩ := bind_some' h
    exact nx_map h
  · obtain ⟨_, _, h⟩ := needD_some h
    obtain ⟨_, _, h⟩ := bind_some' h
    exact nx_eq (build_nx h)
  · obtain ⟨_, _, h⟩ := bind_some' h
    exact nx_map h
  · rename_i t p x _
    obtain ⟨pv, _, h⟩ := bind_some' h
    obtain ⟨xv, _, h⟩ := bind_some' h
    cases hs : aStore E.P t pv xv H with
    | none => rw [hs] at h; cases h
    | some H1 =>
      rw [hs] at h
      simp only [Option.map_some] at h
      injection h with h; injection h with h1 h2
      rw [← h2]
      exact nx_eq (aStore_nx hs)
  · split at h
    · injection h with h; injection h with h1 h2; subst h2; exact Nat.le_refl _
    · injection h with h; injection h with h1 h2; subst h2; exact Nat.le_refl _
    · injection h with h; injection h with h1 h2; subst h2; exact Nat.le_refl _
    · cases h
  · obtain ⟨_, _, h⟩ := bind_some' h
    obtain ⟨_, _, h⟩ := bind_some' h
    exact nx_map h
  · obtain ⟨_, _, h⟩ := bind_some' h
    exact nx_map h
  · obtain ⟨_, _, h⟩ := needD_some h
    obtain ⟨_, _, h⟩ := bind_some' h
    exact nx_eq (aConvert_nx h)
  · split at h
    · injection h with h; injection h with h1 h2; subst h2; exact Nat.le_refl _
    · cases h
  · obtain ⟨_, _, h⟩ := needD_some h
    obtain ⟨_, _, h⟩ := bind_some' h
    obtain ⟨_, _, h⟩ := bind_some' h
    exact nx_eq (make_nx h)
  · obtain ⟨_, _, h⟩ := bind_some' h
    obtain ⟨_, _, h⟩ := bind_some' h
    obtain ⟨_, _, h⟩ := bind_some' h
    exact nx_map h
  · split at h
    · split at h
      · cases h
      · injection h with h; injection h with h1 h2; subst h2; exact Nat.le_refl _
    · split at h
      · cases h
      · injection h with h; injection h with h1 h2; subst h2; exact Nat.le_refl _
    · cases h
  · split at h
    · exact nx_map h
    · cases h
  · obtain ⟨_, _, h⟩ := bind_some' h
    obtain ⟨_, _, h⟩ := bind_some' h
    exact nx_map h
  · obtain ⟨_, _, h⟩ := bind_some' h
    obtain ⟨_, _, h⟩ := bind_some' h
    exact nx_map h
  · split at h
    · exact nx_map h
    · cases h
  · obtain ⟨args, _, h⟩ := bind_some' h
    split at h
    · obtain ⟨_, _, h⟩ := bind_some' h
      exact call_nx hR h
    · split at h
      · exact nx_map h
      · cases h
    · split at h
      · split at h
        · obtain ⟨_, _, h⟩ := needD_some h
          exact nx_eq (aAppend_nx h)
        · cases h
      · cases h
    · split at h
      · split at h
        · exact nx_eq (aCopy_nx h)
        · cases h
      · cases h
    · exact nx_map h
    · exact nx_map h
    · cases h
  · cases h

theorem step1_nx (hR : Up cr) {o : Oper} {a a' : AAct} {H H' : AH} (h : step1 E cp cr st ops o a H = some (a', H')) : H.nx ≤ H'.nx := by
  unfold step1 at h
  split at h
  · cases hs : evalOp E cp cr st o a H with
    | none => rw [hs] at h; cases h
    | some p =>
      rw [hs] at h
      simp only [Option.map_some] at h
      injection h with h; injection h with h1 h2
      rw [← h2]
      exact evalOp_nx hR (show evalOp E cp cr st o a H = some (p.1, p.2) from hs)
  · injection h with h; injection h with h1 h2; subst h2; exact Nat.le_refl _
  · cases h
theorem steps_nx (hR : Up cr) : ∀ {l : List Oper} {a a' : AAct} {H H' : AH}, steps E cp cr st ops l a H = some (a', H') → H.nx ≤ H'.nx
  | [], a, a', H, H', h => by
    simp only [steps] at h
    injection h with h; injection h with h1 h2; subst h2; exact Nat.le_refl _
  | o :: l, a, a', H, H', h => by
    simp only [steps] at h
    split at h
    · rename_i a1 H1 hs
      exact Nat.le_trans (step1_nx hR hs) (steps_nx hR h)
    · cases h
theorem stepsF_nx (hR : Up cr) : ∀ {l : List Oper} {a a' : AAct} {H H' : AH} {fs : List FP}, stepsF E cp cr st ops l a H = some (a', H', fs) → H.nx ≤ H'.nx
  | [], a, a', H, H', fs, h => by
    simp only [stepsF] at h
    injection h with h; injection h with h1 h2; injection h2 with h2 h3; subst h2; exact Nat.le_refl _
  | o :: l, a, a', H, H', fs, h => by
    simp only [stepsF] at h
    split at h
    · rename_i a1 H1 hs
      split at h
      · rename_i a2 H2 fs' hr
        injection h with h; injection h with h1 h2; injection h2 with h2 h3
        rw [← h2]
        exact Nat.le_trans (step1_nx hR hs) (stepsF_nx hR hr)
      · cases h
    · cases h
theorem region_nx (hR : Up cr) {draw : Bool} {a a' : AAct} {H H' : AH} {out : Out} (h : evalRegion E cp cr ops draw a H = some (out, a', H')) : H.nx ≤ H'.nx := by
  have plain : ((steps E cp cr H.nx ops ops.toList a { H with nx := H.nx + 1 }).map fun p => (Out.normal, p.1, p.2)) = some (out, a', H') → H.nx ≤ H'.nx := fun h => by
    cases hs : steps E cp cr H.nx ops ops.toList a { H with nx := H.nx + 1 } with
    | none => rw [hs] at h; cases h
    | some p =>
      rw [hs] at h
      simp only [Option.map_some] at h
      injection h with h; injection h with h1 h2; injection h2 with h2 h3
      have := steps_nx hR (show steps E cp cr H.nx ops ops.toList a { H with nx := H.nx + 1 } = some (p.1, p.2) from hs)
      rw [← h3]
      simp only at this
      omega
  unfold evalRegion at h
  split at h
  · exact plain h
  · split at h
    · exact plain h
    · split at h
      · rename_i a1 H1 fs hs
        split at h
        · injection h with h; injection h with h1 h2; injection h2 with h2 h3
          have := stepsF_nx hR hs
          rw [← h3]
          simp only at this
          omega
        · cases h
      · cases h
    · cases h

def UpR (r : AH → Res) : Prop := ∀ H out a' H', r H = some (out, a', H') → H.nx ≤ H'.nx
theorem seq_nx {r : Res} {f : AAct → AH → Res} {H0 H' : AH} {out : Out} {a' : AAct} (hr : ∀ o1 a1 H1, r = some (o1, a1, H1) → H0.nx ≤ H1.nx) (hf : ∀ a, UpR (f a)) (h : seqR r f = some (out, a', H')) : H0.nx ≤ H'.nx := by
  unfold seqR at h
  split at h
  · rename_i a1 H1
    exact Nat.le_trans (hr _ _ _ rfl) (hf _ _ _ _ _ h)
  · exact hr _ _ _ h
theorem iter_nx {f : AAct → AH → Res} (hf : ∀ a, UpR (f a)) : ∀ n a, UpR (iter f n a)
  | 0, a, H, out, a', H', h => by simp only [iter] at h; cases h
  | n + 1, a, H, out, a', H', h => by
    simp only [iter] at h
    exact seq_nx (fun o1 a1 H1 h1 => hf a H o1 a1 H1 h1) (iter_nx hf n) h
theorem jumps_nx {has : Nat → Bool} {g : Nat → AAct → AH → Res} (hg : ∀ l a, UpR (g l a)) {H0 : AH} : ∀ (n : Nat) (r : Res) (out : Out) (a' : AAct) (H' : AH), (∀ o1 a1 H1, r = some (o1, a1, H1) → H0.nx ≤ H1.nx) → jumps has g n r = some (out, a', H') → H0.nx ≤ H'.nx
  | 0, r, out, a', H', hr, h => by simp only [jumps] at h; cases h
  | n + 1, r, out, a', H', hr, h => by
    simp only [jumps] at h
    split at h
    · rename_i l a1 H1
      split at h
      · exact jumps_nx hg n _ out a' H' (fun o2 a2 H2 h2 => Nat.le_trans (hr _ _ _ rfl) (hg l a1 H1 o2 a2 H2 h2)) h
      · exact hr _ _ _ h
    · exact hr _ _ _ h
theorem evalC_nx (hR : Up cr) (k : Nat) : ∀ (c : Code) (s : Option Nat) (a : AAct), UpR (evalC E cp cr k s c a)
  | .skip, none, a, H, out, a', H', h => by
    simp only [evalC] at h
    injection h with h; injection h with h1 h2; injection h2 with h2 h3; subst h3; exact Nat.le_refl _
  | .label l', none, a, H, out, a', H', h => by
    simp only [evalC] at h
    injection h with h; injection h with h1 h2; injection h2 with h2 h3; subst h3; exact Nat.le_refl _
  | .label l', some l, a, H, out, a', H', h => by
    simp only [evalC] at h
    split at h
    · injection h with h; injection h with h1 h2; injection h2 with h2 h3; subst h3; exact Nat.le_refl _
    · cases h
  | .region _ ops draw, none, a, H, out, a', H', h => by
    simp only [evalC] at h
    exact region_nx hR h
  | .seq x y, none, a, H, out, a', H', h => by
    simp only [evalC] at h
    exact seq_nx (fun o1 a1 H1 h1 => evalC_nx hR k x none a H o1 a1 H1 h1) (evalC_nx hR k y none) h
  | .seq x y, some l, a, H, out, a', H', h => by
    simp only [evalC] at h
    split at h
    · exact seq_nx (fun o1 a1 H1 h1 => evalC_nx hR k x (some l) a H o1 a1 H1 h1) (evalC_nx hR k y none) h
    · exact evalC_nx hR k y (some l) a H out a' H' h
  | .cond c x y, none, a, H, out, a', H', h => by
    simp only [evalC] at h
    split at h
    · exact evalC_nx hR k x none a H out a' H' h
    · exact evalC_nx hR k y none a H out a' H' h
    · cases h
  | .block id c, none, a, H, out, a', H', h => by
    simp only [evalC] at h
    split at h
    · rename_i id' a1 H1 h1
      have := evalC_nx hR k c none a H _ a1 H1 h1
      split at h
      · injection h with h; injection h with h1 h2; injection h2 with h2 h3; subst h3; exact this
      · injection h with h; injection h with h1 h2; injection h2 with h2 h3; subst h3; exact this
    · exact evalC_nx hR k c none a H out a' H' h
  | .loop c, none, a, H, out, a', H', h => by
    simp only [evalC] at h
    exact iter_nx (evalC_nx hR k c none) k a H out a' H' h
  | .exit id, none, a, H, out, a', H', h => by
    simp only [evalC] at h
    injection h with h; injection h with h1 h2; injection h2 with h2 h3; subst h3; exact Nat.le_refl _
  | .goto l, none, a, H, out, a', H', h => by
    simp only [evalC] at h
    injection h with h; injection h with h1 h2; injection h2 with h2 h3; subst h3; exact Nat.le_refl _
  | .ret, none, a, H, out, a', H', h => by
    simp only [evalC] at h
    injection h with h; injection h with h1 h2; injection h2 with h2 h3; subst h3; exact Nat.le_refl _
  | .scope c, none, a, H, out, a', H', h => by
    simp only [evalC] at h
    exact jumps_nx (fun l a => evalC_nx hR k c (some l) a) k _ out a' H' (fun o1 a1 H1 h1 => evalC_nx hR k c none a H o1 a1 H1 h1) h
  | .rangeFunc _ _ _ _, none, a, H, out, a', H', h => by simp only [evalC] at h; cases h
  | .rangeFunc _ _ _ _, some _, a, H, out, a', H', h => by simp only [evalC] at h; cases h
  | .skip, some _, a, H, out, a', H', h => by simp only [evalC] at h; cases h
  | .region _ _ _, some _, a, H, out, a', H', h => by simp only [evalC] at h; cases h
  | .cond _ _ _, some _, a, H, out, a', H', h => by simp only [evalC] at h; cases h
  | .block _ _, some _, a, H, out, a', H', h => by simp only [evalC] at h; cases h
  | .loop _, some _, a, H, out, a', H', h => by simp only [evalC] at h; cases h
  | .exit _, some _, a, H, out, a', H', h => by simp only [evalC] at h; cases h
  | .goto _, some _, a, H, out, a', H', h => by simp only [evalC] at h; cases h
  | .ret, some _, a, H, out, a', H', h => by simp only [evalC] at h; cases h
  | .scope _, some _, a, H, out, a', H', h => by simp only [evalC] at h; cases h
theorem body_nx (hR : Up cr) {k : Nat} {f : FuncId} {args : List AV} {H H' : AH} (h : runBody E cp cr k f args H = some (v, H')) : H.nx ≤ H'.nx := by
  have res : ∀ {a : AAct} {H1 : AH} {rs : List ResultVar}, ((resultsL E.P a H1 rs).map fun vs => (tup1 vs, H1)) = some (v, H') → H' = H1 := fun {a H1 rs} h => by
    cases hs : resultsL E.P a H1 rs with
    | none => rw [hs] at h; cases h
    | some vs =>
      rw [hs] at h
      simp only [Option.map_some] at h
      injection h with h; injection h with h1 h2
      exact h2.symm
  unfold runBody at h
  split at h
  · cases h
  · split at h
    · split at h
      · cases h
      · rename_i c _
        split at h
        · rename_i a1 H1 h1
          rw [res h]
          exact evalC_nx hR k c none _ _ _ _ _ h1
        · rename_i a1 H1 h1
          rw [res h]
          exact evalC_nx hR k c none _ _ _ _ _ h1
        · cases h
    · cases h
theorem calls_nx (E : Env) : ∀ n, Up (calls E n).2
  | 0 => fun g as_ H v H' h => by simp only [calls] at h; cases h
  | n + 1 => fun g as_ H v H' h => by
    simp only [calls] at h
    exact body_nx (calls_nx E n) h
end

end Go.Proofs.Ytcaemgpificohaa.A
