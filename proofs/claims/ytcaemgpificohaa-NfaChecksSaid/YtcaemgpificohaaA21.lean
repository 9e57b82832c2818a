/- A, part 21: code. -/
import Derived.Test.YtcaemgpificohaaA20
set_option linter.unusedVariables false
set_option linter.unusedSimpArgs false
set_option linter.unnecessarySimpa false
namespace Go.Proofs.Ytcaemgpificohaa.A
open Go

section
variable {E : Env} {cp : CallP} {cr : CallR} {n nx0 : Nat} {T0 : Tag → Prop}

def exitOf : Out → Exit
  | .normal => .normal
  | .exit id => .exit id
  | .goto l => .goto l
  | .ret => .ret

/-- Between regions. -/
structure Here (n nx0 : Nat) (T0 : Tag → Prop) (c : Ctx) (a : AAct) (ca : Act) (H : AH) : Prop where
  inv : Inv c
  heap : c.H = H.o
  act : AR c a ca
  size : ca.tmps.size = n
  le : nx0 ≤ H.nx
  nx : ∀ t, c.T t → t.1 < H.nx
  old : ∀ t, c.T t → T0 t ∨ nx0 ≤ t.1

/-- The run went out that way, and stands there. -/
def Post (n nx0 : Nat) (T0 : Tag → Prop) (c : Ctx) (out : Out) (a' : AAct) (H' : AH) : Exit → Act → World → Prop :=
  fun e ca' w' => e = exitOf out ∧ ∃ c', c'.w = w' ∧ Step c c' ∧ Here n nx0 T0 c' a' ca' H'

theorem Post.step {c c1 : Ctx} {out : Out} {a' : AAct} {H' : AH} {e : Exit} {ca' : Act} {w' : World} (s : Step c c1) (h : Post n nx0 T0 c1 out a' H' e ca' w') : Post n nx0 T0 c out a' H' e ca' w' := by
  obtain ⟨h1, c', h2, h3, h4⟩ := h
  exact ⟨h1, c', h2, s.trans h3, h4⟩

/-- Sound, from any start: what the evaluation says is what the code does. -/
def Sound (E : Env) (n nx0 : Nat) (T0 : Tag → Prop) (d : Code) (f : AAct → AH → Res) : Prop :=
  ∀ (c : Ctx) (a : AAct) (ca : Act) (H : AH) (out : Out) (a' : AAct) (H' : AH), Here n nx0 T0 c a ca H → f a H = some (out, a', H') → d.wp E.P (Post n nx0 T0 c out a' H') ca c.w

theorem seq_sound {x y : Code} {f g : AAct → AH → Res} (hx : Sound E n nx0 T0 x f) (hy : Sound E n nx0 T0 y g) : Sound E n nx0 T0 (.seq x y) (fun a H => seqR (f a H) g) := fun c a ca H out a' H' hh h => by
  simp only [seqR] at h
  split at h
  · rename_i a1 H1 h1
    refine wp_seq (wp_mono (hx c a ca H .normal a1 H1 hh h1) ?_)
    rintro e ca1 w1 ⟨rfl, c1, rfl, s1, hh1⟩
    exact wp_mono (hy c1 a1 ca1 H1 out a' H' hh1 h) (fun e ca2 w2 h2 => h2.step s1)
  · rename_i hnot
    refine wp_seq (wp_mono (hx c a ca H out a' H' hh h) ?_)
    intro e ca1 w1 hp
    have he := hp.1
    cases out with
    | normal => exact (hnot a' H' h).elim
    | exit id => subst he; exact hp
    | goto l => subst he; exact hp
    | ret => subst he; exact hp

theorem loop_sound {d : Code} {f : AAct → AH → Res} (hd : Sound E n nx0 T0 d f) (k : Nat) : Sound E n nx0 T0 (.loop d) (iter f k) := fun c a ca H out a' H' hh h b todo cs => by
  have key : ∀ (m : Nat) (c : Ctx) (a : AAct) (ca : Act) (H : AH), Here n nx0 T0 c a ca H → iter f m a H = some (out, a', H') →
      ∃ e ca' w', Post n nx0 T0 c out a' H' e ca' w' ∧ Arrives E.P (lone (b.at ca (.code d :: .inLoop d :: todo)) cs c.w) b todo cs e ca' w' := by
    intro m
    induction m with
    | zero => intro c a ca H _ h; simp only [iter] at h; cases h
    | succ m ih =>
      intro c a ca H hh h
      simp only [iter] at h
      unfold seqR at h
      split at h
      · rename_i a1 H1 h1
        obtain ⟨e, ca1, w1, ⟨he, c1, rfl, s1, hh1⟩, harr⟩ := hd c a ca H .normal a1 H1 hh h1 b (.inLoop d :: todo) cs
        subst he
        obtain ⟨e2, ca2, w2, hp, harr2⟩ := ih c1 a1 ca1 H1 hh1 h
        exact ⟨e2, ca2, w2, hp.step s1, .of_steps (Steps.trans harr (.one step_inLoop)) harr2⟩
      · rename_i hnot
        obtain ⟨e, ca1, w1, hp, harr⟩ := hd c a ca H out a' H' hh h b (.inLoop d :: todo) cs
        have he := hp.1
        cases out with
        | normal => exact (hnot a' H' h).elim
        | exit id => subst he; exact ⟨_, ca1, w1, hp, .pass (x := .inLoop d) rfl (fun _ _ => .inl (by simp [exitOf])) harr⟩
        | goto l => subst he; exact ⟨_, ca1, w1, hp, .pass (x := .inLoop d) rfl (fun _ _ => .inl (by simp [exitOf])) harr⟩
        | ret => subst he; exact ⟨_, ca1, w1, hp, .pass (x := .inLoop d) rfl (fun _ _ => .inl (by simp [exitOf])) harr⟩
  obtain ⟨e, ca', w', hp, harr⟩ := key k c a ca H hh h
  exact ⟨e, ca', w', hp, .of_steps (.one step_loop) harr⟩

theorem scope_sound {d : Code} {f : AAct → AH → Res} {g : Nat → AAct → AH → Res} (hd : Sound E n nx0 T0 d f) (hg : ∀ l rest, findLabel d l = some rest → Sound E n nx0 T0 rest (g l)) (k : Nat) :
    Sound E n nx0 T0 (.scope d) (fun a H => jumps (fun l => (findLabel d l).isSome) g k (f a H)) := fun c a ca H out a' H' hh h b todo cs => by
  have key : ∀ (m : Nat) (x : Code) (fx : AAct → AH → Res) (c : Ctx) (a : AAct) (ca : Act) (H : AH), Sound E n nx0 T0 x fx → Here n nx0 T0 c a ca H → jumps (fun l => (findLabel d l).isSome) g m (fx a H) = some (out, a', H') →
      ∃ e ca' w', Post n nx0 T0 c out a' H' e ca' w' ∧ Arrives E.P (lone (b.at ca (.code x :: .inScope d :: todo)) cs c.w) b todo cs e ca' w' := by
    intro m
    induction m with
    | zero => intro x fx c a ca H _ _ h; simp only [jumps] at h; cases h
    | succ m ih =>
      intro x fx c a ca H hx hh h
      have done : fx a H = some (out, a', H') → (∀ l, out = .goto l → (findLabel d l).isSome = false) → ∃ e ca' w', Post n nx0 T0 c out a' H' e ca' w' ∧ Arrives E.P (lone (b.at ca (.code x :: .inScope d :: todo)) cs c.w) b todo cs e ca' w' := fun h hl => by
        obtain ⟨e, ca1, w1, hp, harr⟩ := hx c a ca H out a' H' hh h b (.inScope d :: todo) cs
        have he := hp.1
        cases out with
        | normal => subst he; exact ⟨.normal, ca1, w1, hp, Steps.trans harr (.one step_inScope)⟩
        | exit id => subst he; exact ⟨.exit id, ca1, w1, hp, fun k' hk => harr k' (by simp [exitTo, hk])⟩
        | goto l =>
          subst he
          refine ⟨.goto l, ca1, w1, hp, fun k' hk => harr k' ?_⟩
          have := hl l rfl
          cases hf : findLabel d l with
          | none => simp [gotoIn, hf, hk]
          | some r => rw [hf] at this; cases this
        | ret => subst he; exact ⟨.ret, ca1, w1, hp, harr⟩
      simp only [jumps] at h
      split at h
      · rename_i l a1 H1 h1
        split at h
        · rename_i hl
          cases hf : findLabel d l with
          | none => rw [hf] at hl; cases hl
          | some rest =>
            obtain ⟨e, ca1, w1, ⟨he, c1, rfl, s1, hh1⟩, harr⟩ := hx c a ca H (.goto l) a1 H1 hh h1 b (.inScope d :: todo) cs
            subst he
            obtain ⟨e2, ca2, w2, hp, harr2⟩ := ih rest (g l) c1 a1 ca1 H1 (hg l rest hf) hh1 h
            exact ⟨e2, ca2, w2, hp.step s1, .of_steps (harr _ (by simp [gotoIn, hf])) harr2⟩
        · rename_i hl
          refine done h (fun l' e => ?_)
          rw [h1] at h
          injection h with h
          injection h with h2 h3
          rw [← h2] at e
          injection e with e
          rw [← e]
          simpa using hl
      · rename_i hnot
        refine done h (fun l e => ?_)
        subst e
        exact (hnot l a' H' h).elim
  obtain ⟨e, ca', w', hp, harr⟩ := key k d f c a ca H hd hh h
  exact ⟨e, ca', w', hp, .of_steps (.one step_scope) harr⟩

def startCode (s : Option Nat) (c : Code) : Option Code :=
  match s with
  | none => some c
  | some l => findLabel c l

variable (hP : CPSound E.P cp) (hX : CPSound E.P E.ext) (hR : CRSound E.P cr) (hm : E.P.follows .mixedOrders = true) (hU : Up cr)
include hP hX hR hm hU

theorem evalC_sound (k : Nat) : ∀ (d : Code) (s : Option Nat) (rest : Code), codeDst n d = true → startCode s d = some rest → Sound E n nx0 T0 rest (evalC E cp cr k s d)
  | .skip, none, rest, _, hs => fun c a ca H out a' H' hh h => by
    injection hs with hs; subst hs
    simp only [evalC] at h
    injection h with h; injection h with h1 h2; injection h2 with h2 h3
    subst h1; subst h2; subst h3
    exact wp_skip ⟨rfl, c, rfl, Step.refl c, hh⟩
  | .label l', none, rest, _, hs => fun c a ca H out a' H' hh h => by
    injection hs with hs; subst hs
    simp only [evalC] at h
    injection h with h; injection h with h1 h2; injection h2 with h2 h3
    subst h1; subst h2; subst h3
    exact wp_label ⟨rfl, c, rfl, Step.refl c, hh⟩
  | .label l', some l, rest, _, hs => fun c a ca H out a' H' hh h => by
    simp only [evalC] at h
    split at h
    · rename_i e
      subst e
      simp only [startCode, findLabel, beq_self_eq_true, if_true] at hs
      injection hs with hs; subst hs
      injection h with h; injection h with h1 h2; injection h2 with h2 h3
      subst h1; subst h2; subst h3
      exact wp_skip ⟨rfl, c, rfl, Step.refl c, hh⟩
    · cases h
  | .region id ops draw, none, rest, hdst, hs => fun c a ca H out a' H' hh h => by
    injection hs with hs; subst hs
    simp only [codeDst, Bool.and_eq_true] at hdst
    simp only [evalC] at h
    have hle := region_nx hU h
    have hout : out = .normal := (region_sound (Q := fun _ _ _ => True) (id := id) (n := n) (nx0 := nx0) (T0 := T0) hP hX hR hm hdst.2 hdst.1 hh.inv hh.heap hh.act hh.size hh.le hh.nx hh.old h (fun _ _ _ _ _ _ _ _ _ => trivial)).1
    subst hout
    refine (region_sound hP hX hR hm hdst.2 hdst.1 hh.inv hh.heap hh.act hh.size hh.le hh.nx hh.old h (fun c' ca' i1 s1 e1 a1 z1 n1 o1 => ?_)).2
    exact ⟨rfl, c', rfl, s1, i1, e1, a1, z1, Nat.le_trans hh.le hle, n1, o1⟩
  | .seq x y, none, rest, hdst, hs => by
    injection hs with hs; subst hs
    simp only [codeDst, Bool.and_eq_true] at hdst
    have hx := evalC_sound k x none x hdst.1 rfl
    have hy := evalC_sound k y none y hdst.2 rfl
    intro c a ca H out a' H' hh h
    simp only [evalC] at h
    exact seq_sound hx hy c a ca H out a' H' hh h
  | .seq x y, some l, rest, hdst, hs => by
    simp only [codeDst, Bool.and_eq_true] at hdst
    have hy := evalC_sound k y none y hdst.2 rfl
    intro c a ca H out a' H' hh h
    simp only [evalC] at h
    simp only [startCode, findLabel] at hs
    cases hf : findLabel x l with
    | none =>
      rw [hf] at hs h
      have hy' := evalC_sound k y (some l) rest hdst.2 hs
      exact hy' c a ca H out a' H' hh h
    | some r =>
      rw [hf] at hs h
      injection hs with hs; subst hs
      have hx := evalC_sound k x (some l) r hdst.1 hf
      exact seq_sound hx hy c a ca H out a' H' hh h
  | .cond co x y, none, rest, hdst, hs => by
    injection hs with hs; subst hs
    simp only [codeDst, Bool.and_eq_true] at hdst
    have hx := evalC_sound k x none x hdst.1 rfl
    have hy := evalC_sound k y none y hdst.2 rfl
    intro c a ca H out a' H' hh h
    simp only [evalC] at h
    split at h
    · rename_i hc
      exact wp_cond_true (opd_rel hh.act hc).bool_ (hx c a ca H out a' H' hh h)
    · rename_i hc
      exact wp_cond_false (opd_rel hh.act hc).bool_ (hy c a ca H out a' H' hh h)
    · cases h
  | .block id x, none, rest, hdst, hs => by
    injection hs with hs; subst hs
    simp only [codeDst] at hdst
    have hx := evalC_sound k x none x hdst rfl
    intro c a ca H out a' H' hh h
    simp only [evalC] at h
    split at h
    · rename_i id' a1 H1 h1
      refine wp_block (wp_mono (hx c a ca H _ a1 H1 hh h1) ?_)
      rintro e ca1 w1 ⟨rfl, c1, rfl, s1, hh1⟩
      simp only [exitOf, Exit.inBlock]
      split at h
      · rename_i e
        rw [if_pos e]
        injection h with h; injection h with h1 h2; injection h2 with h2 h3
        subst h1; subst h2; subst h3
        exact ⟨rfl, c1, rfl, s1, hh1⟩
      · rename_i e
        rw [if_neg e]
        injection h with h; injection h with h1 h2; injection h2 with h2 h3
        subst h1; subst h2; subst h3
        exact ⟨rfl, c1, rfl, s1, hh1⟩
    · rename_i hnot
      refine wp_block (wp_mono (hx c a ca H out a' H' hh h) ?_)
      intro e ca1 w1 hp
      have he := hp.1
      cases out with
      | normal => subst he; exact hp
      | exit id' => exact (hnot id' a' H' h).elim
      | goto l => subst he; exact hp
      | ret => subst he; exact hp
  | .loop x, none, rest, hdst, hs => by
    injection hs with hs; subst hs
    simp only [codeDst] at hdst
    have hx := evalC_sound k x none x hdst rfl
    intro c a ca H out a' H' hh h
    simp only [evalC] at h
    exact loop_sound hx k c a ca H out a' H' hh h
  | .exit id, none, rest, _, hs => fun c a ca H out a' H' hh h => by
    injection hs with hs; subst hs
    simp only [evalC] at h
    injection h with h; injection h with h1 h2; injection h2 with h2 h3
    subst h1; subst h2; subst h3
    exact wp_exit ⟨rfl, c, rfl, Step.refl c, hh⟩
  | .goto l, none, rest, _, hs => fun c a ca H out a' H' hh h => by
    injection hs with hs; subst hs
    simp only [evalC] at h
    injection h with h; injection h with h1 h2; injection h2 with h2 h3
    subst h1; subst h2; subst h3
    exact wp_goto ⟨rfl, c, rfl, Step.refl c, hh⟩
  | .ret, none, rest, _, hs => fun c a ca H out a' H' hh h => by
    injection hs with hs; subst hs
    simp only [evalC] at h
    injection h with h; injection h with h1 h2; injection h2 with h2 h3
    subst h1; subst h2; subst h3
    exact wp_ret ⟨rfl, c, rfl, Step.refl c, hh⟩
  | .scope x, none, rest, hdst, hs => by
    injection hs with hs; subst hs
    simp only [codeDst] at hdst
    have hx := evalC_sound k x none x hdst rfl
    have hg : ∀ l r, findLabel x l = some r → Sound E n nx0 T0 r (evalC E cp cr k (some l) x) := fun l r hf => evalC_sound k x (some l) r hdst hf
    intro c a ca H out a' H' hh h
    simp only [evalC] at h
    exact scope_sound hx hg k c a ca H out a' H' hh h
  | .refuse _, none, rest, _, hs => fun c a ca H out a' H' hh h => by simp only [evalC] at h; cases h
  | .refuse _, some _, rest, _, hs => fun c a ca H out a' H' hh h => by simp only [evalC] at h; cases h
  | .rangeFunc _ _ _ _, none, rest, _, hs => fun c a ca H out a' H' hh h => by simp only [evalC] at h; cases h
  | .rangeFunc _ _ _ _, some _, rest, _, hs => fun c a ca H out a' H' hh h => by simp only [evalC] at h; cases h
  | .skip, some _, rest, _, hs => fun c a ca H out a' H' hh h => by simp only [evalC] at h; cases h
  | .region _ _ _, some _, rest, _, hs => fun c a ca H out a' H' hh h => by simp only [evalC] at h; cases h
  | .cond _ _ _, some _, rest, _, hs => fun c a ca H out a' H' hh h => by simp only [evalC] at h; cases h
  | .block _ _, some _, rest, _, hs => fun c a ca H out a' H' hh h => by simp only [evalC] at h; cases h
  | .loop _, some _, rest, _, hs => fun c a ca H out a' H' hh h => by simp only [evalC] at h; cases h
  | .exit _, some _, rest, _, hs => fun c a ca H out a' H' hh h => by simp only [evalC] at h; cases h
  | .goto _, some _, rest, _, hs => fun c a ca H out a' H' hh h => by simp only [evalC] at h; cases h
  | .ret, some _, rest, _, hs => fun c a ca H out a' H' hh h => by simp only [evalC] at h; cases h
  | .scope _, some _, rest, _, hs => fun c a ca H out a' H' hh h => by simp only [evalC] at h; cases h
end

end Go.Proofs.Ytcaemgpificohaa.A
