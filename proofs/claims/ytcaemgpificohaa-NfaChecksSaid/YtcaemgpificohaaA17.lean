/- A, part 17: neighbours change places. -/
import Derived.Test.YtcaemgpificohaaA16
set_option linter.unusedVariables false
set_option linter.unusedSimpArgs false
set_option linter.unnecessarySimpa false
namespace Go.Proofs.Ytcaemgpificohaa.A
open Go

section
variable {E : Env} {cp : CallP} {cr : CallR} {st : Nat} {ops : Array Oper}

def stepV (E : Env) (cp : CallP) (cr : CallR) (st : Nat) (ops : Array Oper) (o : Oper) (a : AAct) (H : AH) : Option (AV × AH) :=
  match wantedA ops a o with
  | some true => evalOp E cp cr st o a H
  | some false => some (noV, H)
  | none => none
theorem step1_eq (o : Oper) (a : AAct) (H : AH) : step1 E cp cr st ops o a H = (stepV E cp cr st ops o a H).map fun p => (putO a o.dst p.1, p.2) := by
  unfold step1 stepV
  cases wantedA ops a o with
  | none => rfl
  | some b => cases b <;> rfl
theorem stepV_congr {o : Oper} {a : AAct} {H : AH} {d : Option Nat} {v : AV} (h : ∀ t, d = some t → t ∉ o.looksAt ops) : stepV E cp cr st ops o (putO a d v) H = stepV E cp cr st ops o a H ∧ foot E st ops o (putO a d v) H = foot E st ops o a H := by
  refine ⟨?_, foot_congr (looks_wanted h) (looks_opd h)⟩
  unfold stepV
  rw [looks_wanted h, evalOp_congr (looks_opd h)]
theorem stepV_local {o : Oper} {a : AAct} {H H' : AH} {v : AV} (hall : (foot E st ops o a H).all = false) (h : stepV E cp cr st ops o a H = some (v, H')) : ∃ D, Local (stepV E cp cr st ops o a) (foot E st ops o a) H v H' D := by
  unfold stepV at h
  split at h
  · rename_i hw
    obtain ⟨D, hD⟩ := evalOp_local hw hall h
    refine ⟨D, { w := hD.w, out := hD.out, same := fun H2 hs => ?_ }⟩
    have := hD.same H2 hs
    refine ⟨?_, this.2⟩
    unfold stepV
    rw [hw]
    exact this.1
  · rename_i hw
    injection h with h
    injection h with h1 h2
    subst h1; subst h2
    have hf : ∀ H2, foot E st ops o a H2 = FP.none_ := fun H2 => by
      unfold foot
      rw [if_neg (by rw [hw]; simp)]
    refine ⟨fun _ => none, { w := fun t x h => (by cases h), out := rfl, same := fun H2 _ => ⟨?_, by rw [hf, hf]⟩ }⟩
    unfold stepV
    rw [hw]
    rfl
  · cases h

theorem putO_comm (a : AAct) {x y : Option Nat} (v u : AV) (h : ∀ d, x = some d → y ≠ some d) : putO (putO a x v) y u = putO (putO a y u) x v := by
  cases x with
  | none => rfl
  | some d =>
    cases y with
    | none => rfl
    | some e =>
      have hne : d ≠ e := fun q => h d rfl (by rw [q])
      funext t
      simp only [putO, A.put]
      by_cases h1 : t = d
      · have h2 : ¬ t = e := fun q => hne (h1.symm.trans q)
        simp only [h1, if_true, if_neg hne]
      · simp only [if_neg h1]

theorem over_comm {D D' : Tag → Option AObj} (h : ∀ t x y, D t = some x → D' t = some y → False) (H : AH) : over D (over D' H) = over D' (over D H) := by
  simp only [over, AH.mk.injEq, and_true]
  funext t
  cases h1 : D t with
  | none => rfl
  | some x =>
    cases h2 : D' t with
    | none => rfl
    | some y => exact (h t x y h1 h2).elim

theorem disj_parts {x y : FP} (hx : x.all = false) (hy : y.all = false) (h : disj x y = true) : (∀ t, t ∈ x.w → t ∉ y.r ∧ t ∉ y.w) ∧ (∀ t, t ∈ y.w → t ∉ x.r) := by
  unfold disj at h
  rw [hx, hy] at h
  simp only [Bool.false_eq_true, if_false, Bool.and_eq_true, List.all_eq_true, Bool.not_eq_true', List.contains_eq_mem, decide_eq_false_iff_not] at h
  exact ⟨fun t ht => h.1 t ht, fun t ht => h.2 t ht⟩

/-- Two operations that do not meet: either may come first. -/
theorem swap {x y : Oper} {a : AAct} {H H1 H2 : AH} {vx vy : AV} (hap : x.apart ops y = true) (hx : stepV E cp cr st ops x a H = some (vx, H1)) (hy : stepV E cp cr st ops y (putO a x.dst vx) H1 = some (vy, H2))
    (hd : disj (foot E st ops x a H) (foot E st ops y (putO a x.dst vx) H1) = true) :
    ∃ H1', stepV E cp cr st ops y a H = some (vy, H1') ∧ foot E st ops y a H = foot E st ops y (putO a x.dst vx) H1 ∧ stepV E cp cr st ops x (putO a y.dst vy) H1' = some (vx, H2) ∧ foot E st ops x (putO a y.dst vy) H1' = foot E st ops x a H ∧
      putO (putO a y.dst vy) x.dst vx = putO (putO a x.dst vx) y.dst vy := by
  obtain ⟨p1, p2, p3⟩ := Oper.apart_spec hap
  have cy : ∀ H, _ := fun H => stepV_congr (E := E) (cp := cp) (cr := cr) (st := st) (ops := ops) (o := y) (a := a) (H := H) (d := x.dst) (v := vx) p1
  have cx : ∀ H, _ := fun H => stepV_congr (E := E) (cp := cp) (cr := cr) (st := st) (ops := ops) (o := x) (a := a) (H := H) (d := y.dst) (v := vy) p3
  rw [(cy H1).2] at hd ⊢
  rw [(cy H1).1] at hy
  have hput : putO (putO a y.dst vy) x.dst vx = putO (putO a x.dst vx) y.dst vy := (putO_comm a vx vy p2).symm
  by_cases ax : (foot E st ops x a H).all = true
  · -- x meets everything: y touches nothing
    have hyy : (foot E st ops y a H1).all = false ∧ (foot E st ops y a H1).r = [] ∧ (foot E st ops y a H1).w = [] := by
      unfold disj at hd
      rw [if_pos ax] at hd
      simpa [and_assoc] using hd
    obtain ⟨Dy, ly⟩ := stepV_local hyy.1 hy
    have hD : Dy = fun _ => none := by
      funext t
      cases ht : Dy t with
      | none => rfl
      | some z => have := ly.w t z ht; rw [hyy.2.2] at this; cases this
    subst hD
    obtain ⟨s1, s2⟩ := ly.same H (by rw [hyy.2.1, hyy.2.2]; exact fun t ht => by cases ht)
    refine ⟨H, s1, s2, ?_, (cx H).2, hput⟩
    rw [(cx H).1, hx, ly.out]
    rfl
  · have ax' : (foot E st ops x a H).all = false := by simpa using ax
    obtain ⟨Dx, lx⟩ := stepV_local ax' hx
    by_cases ay : (foot E st ops y a H1).all = true
    · have hxx : (foot E st ops x a H).r = [] ∧ (foot E st ops x a H).w = [] := by
        unfold disj at hd
        rw [if_neg ax, if_pos ay] at hd
        simpa using hd
      have hD : Dx = fun _ => none := by
        funext t
        cases ht : Dx t with
        | none => rfl
        | some z => have := lx.w t z ht; rw [hxx.2] at this; cases this
      subst hD
      have e1 : H1 = H := lx.out
      subst e1
      obtain ⟨s1, s2⟩ := lx.same H2 (by rw [hxx.1, hxx.2]; exact fun t ht => by cases ht)
      refine ⟨H2, hy, rfl, ?_, ?_, hput⟩
      · rw [(cx H2).1, s1]
        rfl
      · rw [(cx H2).2, s2]
    · have ay' : (foot E st ops y a H1).all = false := by simpa using ay
      obtain ⟨Dy, ly⟩ := stepV_local ay' hy
      obtain ⟨q1, q2⟩ := disj_parts ax' ay' hd
      have sy : Same ((foot E st ops y a H1).r ++ (foot E st ops y a H1).w) H1.o H.o := fun t ht => by
        rw [lx.out]
        simp only [over]
        cases hD : Dx t with
        | none => rfl
        | some z =>
          obtain ⟨n1, n2⟩ := q1 t (lx.w t z hD)
          rcases List.mem_append.1 ht with h | h
          · exact absurd h n1
          · exact absurd h n2
      obtain ⟨s1, s2⟩ := ly.same H sy
      have sx : Same ((foot E st ops x a H).r ++ (foot E st ops x a H).w) H.o (over Dy H).o := fun t ht => by
        simp only [over]
        cases hD : Dy t with
        | none => rfl
        | some z =>
          have hm := ly.w t z hD
          rcases List.mem_append.1 ht with h | h
          · exact absurd h (q2 t hm)
          · exact absurd hm (q1 t h).2
      obtain ⟨t1, t2⟩ := lx.same (over Dy H) sx
      refine ⟨over Dy H, s1, s2, ?_, ?_, hput⟩
      · rw [(cx _).1, t1, ly.out, lx.out, over_comm]
        intro t u w h1 h2
        exact (q1 t (lx.w t u h1)).2 (ly.w t w h2)
      · rw [(cx _).2, t2]

/-- A run of the operations that a list names, each with its footprint. -/
def Runs (E : Env) (cp : CallP) (cr : CallR) (st : Nat) (ops : Array Oper) (F : Nat → FP) : List Nat → AAct → AH → AAct → AH → Prop
  | [], a, H, a', H' => a' = a ∧ H' = H
  | i :: l, a, H, a', H' => ∃ o v H1, ops[i]? = some o ∧ stepV E cp cr st ops o a H = some (v, H1) ∧ foot E st ops o a H = F i ∧ Runs E cp cr st ops F l (putO a o.dst v) H1 a' H'
def Free (ops : Array Oper) (F : Nat → FP) (i j : Nat) : Prop := ∀ x y, ops[i]? = some x → ops[j]? = some y → x.apart ops y = true ∧ disj (F i) (F j) = true

theorem bubble {F : Nat → FP} {j : Nat} : ∀ {L1 L2 : List Nat} {a a' : AAct} {H H' : AH}, Runs E cp cr st ops F (L1 ++ j :: L2) a H a' H' → (∀ i ∈ L1, Free ops F i j) → Runs E cp cr st ops F (j :: (L1 ++ L2)) a H a' H'
  | [], L2, a, a', H, H', h, _ => h
  | i :: L1, L2, a, a', H, H', h, hf => by
    obtain ⟨x, vx, H1, hx, ex, fx, hr⟩ := h
    obtain ⟨y, vy, H2, hy, ey, fy, hr'⟩ := bubble hr (fun k hk => hf k (List.mem_cons_of_mem _ hk))
    obtain ⟨hap, hd⟩ := hf i (List.mem_cons_self ..) x y hx hy
    rw [← fx, ← fy] at hd
    obtain ⟨H1', e1, f1, e2, f2, hp⟩ := swap hap ex ey hd
    refine ⟨y, vy, H1', hy, e1, by rw [f1, fy], x, vx, H2, hx, e2, by rw [f2, fx], ?_⟩
    rw [hp]
    exact hr'
end

end Go.Proofs.Ytcaemgpificohaa.A
