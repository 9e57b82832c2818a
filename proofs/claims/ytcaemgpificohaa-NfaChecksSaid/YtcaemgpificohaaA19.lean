/- A, part 19: the check of a region whose order is drawn. -/
import Derived.Test.YtcaemgpificohaaA18
set_option linter.unusedVariables false
set_option linter.unusedSimpArgs false
set_option linter.unnecessarySimpa false
namespace Go.Proofs.Ytcaemgpificohaa.A
open Go

section
variable {E : Env} {cp : CallP} {cr : CallR} {st : Nat} {ops : Array Oper}

theorem touch_foot (o : Oper) (a : AAct) (H : AH) : (touch E o = 0 → foot E st ops o a H = FP.none_) ∧ (touch E o ≤ 1 → (foot E st ops o a H).w = [] ∧ (foot E st ops o a H).all = false) := by
  by_cases hw : wantedA ops a o = some true
  · rw [foot_go hw]
    obtain ⟨dst, op, type, pos, after, guard⟩ := o
    unfold touch
    cases op <;> dsimp only <;> try exact ⟨fun h => (by cases h), fun h => (by omega)⟩
    all_goals try exact ⟨fun _ => rfl, fun _ => ⟨rfl, rfl⟩⟩
    all_goals try exact ⟨fun h => (by cases h), fun _ => ⟨rfl, rfl⟩⟩
    rename_i c
    cases hc : c.callee with
    | invoke r m => exact ⟨fun h => (by cases h), fun h => (by dsimp only at h; omega)⟩
    | builtin b => cases b <;> first | exact ⟨fun h => (by cases h), fun h => (by dsimp only at h; omega)⟩ | exact ⟨fun h => (by cases h), fun _ => ⟨rfl, rfl⟩⟩
    | value f =>
      cases f with
      | func g =>
        simp only [opd]
        cases hm : E.mode g with
        | pure b => cases b <;> first | exact ⟨fun h => (by cases h), fun h => (by dsimp only at h; omega)⟩ | exact ⟨fun h => (by cases h), fun _ => ⟨rfl, rfl⟩⟩
        | ext b => cases b <;> first | exact ⟨fun h => (by cases h), fun h => (by dsimp only at h; omega)⟩ | exact ⟨fun h => (by cases h), fun _ => ⟨rfl, rfl⟩⟩
        | raw b => exact ⟨fun h => (by cases h), fun h => (by dsimp only at h; omega)⟩
      | _ => exact ⟨fun h => (by cases h), fun h => (by dsimp only at h; omega)⟩
  · have : foot E st ops o a H = FP.none_ := by unfold foot; rw [if_neg hw]
    rw [this]
    exact ⟨fun _ => rfl, fun _ => ⟨rfl, rfl⟩⟩
theorem touch_le (o : Oper) : touch E o ≤ 2 := by
  unfold touch
  repeat' split
  all_goals omega

/-- A pair that the touches alone tell apart. -/
theorem light_disj {fx fy : FP} {tx ty : Nat} (hx : (tx = 0 → fx = FP.none_) ∧ (tx ≤ 1 → fx.w = [] ∧ fx.all = false)) (hy : (ty = 0 → fy = FP.none_) ∧ (ty ≤ 1 → fy.w = [] ∧ fy.all = false)) (lx : tx ≤ 2) (ly : ty ≤ 2)
    (h : ((tx == 2 && ty != 0) || (ty == 2 && tx != 0)) = false) : disj fx fy = true := by
  have key : tx = 0 ∨ ty = 0 ∨ (tx ≤ 1 ∧ ty ≤ 1) := by
    simp only [Bool.or_eq_false_iff, Bool.and_eq_false_iff, beq_eq_false_iff_ne, bne_eq_false_iff_eq] at h
    omega
  rcases key with h0 | h0 | ⟨h1, h2⟩
  · rw [hx.1 h0]
    unfold disj FP.none_
    cases ha : fy.all <;> simp
  · rw [hy.1 h0]
    unfold disj FP.none_
    cases ha : fx.all <;> simp
  · obtain ⟨w1, a1⟩ := hx.2 h1
    obtain ⟨w2, a2⟩ := hy.2 h2
    unfold disj
    simp [w1, a1, w2, a2]

theorem befores_spec : ∀ {l : List Oper} {done bs : List (List Nat)}, befores l done = some bs → ∃ tail, bs = done ++ tail ∧ ∀ (k : Nat) (o : Oper), l[k]? = some o →
    (∀ e ∈ o.after, Region.binds .any e = true → e.on < done.length + k) ∧ ∀ i ∈ (bs[done.length + k]?).getD [], ∃ e ∈ o.after, Region.binds .any e = true ∧ (i = e.on ∨ i ∈ (bs[e.on]?).getD [])
  | [], done, bs, h => by
    simp only [befores] at h
    injection h with h
    exact ⟨[], by simp [h], fun k o ho => by simp at ho⟩
  | x :: l, done, bs, h => by
    simp only [befores] at h
    split at h
    · rename_i b hb
      obtain ⟨tail, rfl, hspec⟩ := befores_spec h
      refine ⟨b :: tail, by simp, fun k o ho => ?_⟩
      cases k with
      | zero =>
        simp only [List.getElem?_cons_zero, Option.some.injEq] at ho
        subst ho
        unfold before1 at hb
        split at hb
        · rename_i hall
          injection hb with hb
          have hlt : ∀ e ∈ x.after, Region.binds .any e = true → e.on < done.length := fun e he hbd => by
            have := List.all_eq_true.1 hall e (by simpa using he)
            simpa [hbd] using this
          refine ⟨hlt, fun i hi => ?_⟩
          have : (done ++ [b] ++ tail)[done.length + 0]? = some b := by simp
          rw [this] at hi
          simp only [Option.getD_some] at hi
          rw [← hb] at hi
          obtain ⟨e, he, hi⟩ := List.mem_flatMap.1 hi
          obtain ⟨he, hbd⟩ := List.mem_filter.1 he
          have he' : e ∈ x.after := by simpa using he
          refine ⟨e, he', hbd, ?_⟩
          rcases List.mem_cons.1 hi with h1 | h1
          · exact .inl h1
          · refine .inr ?_
            rw [List.append_assoc, List.getElem?_append_left (hlt e he' hbd)]
            exact h1
        · cases hb
      | succ k =>
        simp only [List.getElem?_cons_succ] at ho
        have := hspec k o ho
        simp only [List.length_append, List.length_cons, List.length_nil] at this
        have e : done.length + (0 + 1) + k = done.length + (k + 1) := by omega
        rw [e] at this
        exact this
    · cases h

theorem open_spec {prs : List (Nat × Nat)} (h : openPairs E ops = some prs) : ∃ B : Nat → List Nat, Anc ops B ∧ ∀ (i j : Nat) (x y : Oper), i < j → ops[i]? = some x → ops[j]? = some y → i ∉ B j →
    x.apart ops y = true ∧ (((touch E x == 2 && touch E y != 0) || (touch E y == 2 && touch E x != 0)) = false ∨ (i, j) ∈ prs) := by
  unfold openPairs at h
  split at h
  · cases h
  · rename_i bs hbs
    dsimp only at h
    split at h
    · cases h
    · split at h
      · rename_i hall
        injection h with h
        obtain ⟨tail, _, hspec⟩ := befores_spec hbs
        refine ⟨fun j => (bs[j]?).getD [], ⟨fun j y e hy he hb => ?_, fun j y i hy hi => ?_⟩, fun i j x y hij hx hy hi => ?_⟩
        · have := (hspec j y (by simpa using hy)).1 e he hb
          simpa using this
        · have := (hspec j y (by simpa using hy)).2 i (by simpa using hi)
          simpa using this
        · have hm : (x, i, y, j) ∈ (ops.toList.zipIdx.flatMap fun (y, j) => (ops.toList.zipIdx.take j).filterMap fun (x, i) => if ((bs[j]?).getD []).contains i then none else some (x, i, y, j)) := by
            refine List.mem_flatMap.2 ⟨(y, j), List.mk_mem_zipIdx_iff_getElem?.2 (by simpa using hy), ?_⟩
            refine List.mem_filterMap.2 ⟨(x, i), ?_, ?_⟩
            · refine List.mem_of_getElem? (i := i) ?_
              rw [List.getElem?_take_of_lt hij, List.getElem?_zipIdx]
              have : ops.toList[i]? = some x := by simpa using hx
              rw [this]
              simp
            · dsimp only
              rw [if_neg (by simpa using hi)]
          have ha := List.all_eq_true.1 hall _ hm
          refine ⟨ha, ?_⟩
          by_cases ht : ((touch E x == 2 && touch E y != 0) || (touch E y == 2 && touch E x != 0)) = true
          · right
            rw [← h]
            refine List.mem_map.2 ⟨(x, i, y, j), List.mem_filter.2 ⟨hm, ?_⟩, rfl⟩
            exact ht
          · left
            simpa using ht
      · cases h

theorem stepsF_runs : ∀ {l : List Oper} {k : Nat} {a a' : AAct} {H H' : AH} {fs : List FP} {F : Nat → FP}, (∀ j o, l[j]? = some o → ops[k + j]? = some o) → (∀ j, F (k + j) = (fs[j]?).getD FP.none_) → stepsF E cp cr st ops l a H = some (a', H', fs) → Runs E cp cr st ops F (List.range' k l.length) a H a' H'
  | [], k, a, a', H, H', fs, F, _, _, h => by
    simp only [stepsF] at h
    injection h with h
    injection h with h1 h
    injection h with h2 h3
    exact ⟨h1.symm, h2.symm⟩
  | o :: l, k, a, a', H, H', fs, F, hl, hF, h => by
    simp only [stepsF] at h
    rw [step1_eq] at h
    cases hs : stepV E cp cr st ops o a H with
    | none => rw [hs] at h; cases h
    | some p =>
      rw [hs] at h
      simp only [Option.map_some] at h
      split at h
      · rename_i a2 H2 fs' hr
        injection h with h
        injection h with h1 h
        injection h with h2 h3
        subst h1; subst h2; subst h3
        refine ⟨o, p.1, p.2, by simpa using hl 0 o rfl, hs, by simpa using (hF 0).symm, ?_⟩
        refine stepsF_runs (fun j x hj => ?_) (fun j => ?_) hr
        · have := hl (j + 1) x (by simpa using hj)
          rw [← this]
          congr 1
          omega
        · have := hF (j + 1)
          simp only [List.getElem?_cons_succ] at this
          rw [← this]
          congr 1
          omega
      · cases h
theorem steps_stepsF : ∀ {l : List Oper} {a a' : AAct} {H H' : AH}, steps E cp cr st ops l a H = some (a', H') → ∃ fs, stepsF E cp cr st ops l a H = some (a', H', fs)
  | [], a, a', H, H', h => by
    simp only [steps] at h
    injection h with h
    injection h with h1 h2
    exact ⟨[], by simp [stepsF, h1, h2]⟩
  | o :: l, a, a', H, H', h => by
    simp only [steps] at h
    cases hs : step1 E cp cr st ops o a H with
    | none => rw [hs] at h; cases h
    | some p =>
      obtain ⟨a1, H1⟩ := p
      rw [hs] at h
      obtain ⟨fs, hf⟩ := steps_stepsF h
      exact ⟨_, by simp only [stepsF, hs, hf]; rfl⟩
/-- Every operation that a run passed has that footprint. -/
theorem runs_foot {F : Nat → FP} : ∀ {L : List Nat} {a a' : AAct} {H H' : AH}, Runs E cp cr st ops F L a H a' H' → ∀ i ∈ L, ∃ o b G, ops[i]? = some o ∧ foot E st ops o b G = F i
  | [], a, a', H, H', _, i, hi => by cases hi
  | j :: L, a, a', H, H', h, i, hi => by
    obtain ⟨o, v, H1, ho, hs, hf, hr⟩ := h
    rcases List.mem_cons.1 hi with h1 | h1
    · subst h1; exact ⟨o, a, H, ho, hf⟩
    · exact runs_foot hr i h1

/-- What is asked of the machine at a region's end. -/
abbrev Done (T0 : Tag → Prop) (nx0 n : Nat) (c : Ctx) (a' : AAct) (H' : AH) (R : Act → World → Prop) : Prop :=
  ∀ c' ca', Inv c' → Step c c' → c'.H = H'.o → AR c' a' ca' → ca'.tmps.size = n → (∀ t, c'.T t → t.1 < H'.nx) → (∀ t, c'.T t → T0 t ∨ nx0 ≤ t.1) → R ca' c'.w

theorem region_sound (hP : CPSound E.P cp) (hX : CPSound E.P E.ext) (hR : CRSound E.P cr) (hm : E.P.follows .mixedOrders = true) {id n nx0 : Nat} {T0 : Tag → Prop} {draw : Bool} (hn : newsOk ops.toList = true) (hd : opsDst n ops.toList = true) {c : Ctx} {a a' : AAct} {ca : Act} {H H' : AH}
    {out : Out} (hI : Inv c) (hH : c.H = H.o) (hA : AR c a ca) (hsz : ca.tmps.size = n) (h0 : nx0 ≤ H.nx) (hnx : ∀ t, c.T t → t.1 < H.nx) (hold : ∀ t, c.T t → T0 t ∨ nx0 ≤ t.1) (h : evalRegion E cp cr ops draw a H = some (out, a', H')) {Q : Exit → Act → World → Prop}
    (hQ : Done T0 nx0 n c a' H' (Q .normal)) : out = .normal ∧ (Code.region id ops draw).wp E.P Q ca c.w := by
  have hd' : ∀ (i : Nat) (o : Oper) (d : Nat), ops[i]? = some o → o.dst = some d → d < n := fun i o d ho hdst => by
    have := List.all_eq_true.1 hd o (by simpa using Array.mem_of_getElem? ho)
    rw [hdst] at this
    simpa using this
  have fin : ∀ {c1 : Ctx}, Step c c1 → ∀ c' ca', Step c1 c' → At E.P ops H.nx n T0 nx0 [] c' a' ca' H' → Q .normal ca' c'.w := fun s1 c' ca' hs hat => hQ c' ca' hat.inv (s1.trans hs) hat.heap hat.act hat.size hat.nx hat.old
  have start : ∀ {c1 : Ctx}, Inv c1 → c1.H = H.o → AR c1 a ca → c1.T = c.T → ∀ L, At E.P ops H.nx n T0 nx0 L c1 a ca { H with nx := H.nx + 1 } := fun {c1} i1 hh ha ht L => by
    refine ⟨i1, hh, ha, hsz, by simp, fun t hT => ?_, fun t hT => ?_, fun i _ o d _ _ _ hT => ?_⟩
    · rw [ht] at hT
      have := hnx t hT
      simp only
      omega
    · rw [ht] at hT
      exact hold t hT
    · rw [ht] at hT
      have := hnx _ hT
      simp only at this
      omega
  have runs0 : ∀ {fs : List FP}, stepsF E cp cr H.nx ops ops.toList a { H with nx := H.nx + 1 } = some (a', H', fs) → Runs E cp cr H.nx ops (fun i => (fs[i]?).getD FP.none_) (List.range ops.size) a { H with nx := H.nx + 1 } a' H' := fun {fs} hf => by
    have := stepsF_runs (k := 0) (F := fun i => (fs[i]?).getD FP.none_) (fun j o hj => by simpa using hj) (fun j => by simp) hf
    rw [List.range_eq_range']
    simpa using this
  have drawn : ∀ {prs : List (Nat × Nat)} {fs : List FP}, openPairs E ops = some prs → racesOk fs prs = true → stepsF E cp cr H.nx ops ops.toList a { H with nx := H.nx + 1 } = some (a', H', fs) → (Code.region id ops true).wp E.P Q ca c.w := fun {prs fs} ho hr hf => by
    have hruns := runs0 hf
    obtain ⟨B, hB, hpairs⟩ := open_spec ho
    obtain ⟨i1, s1⟩ := step_world (c := c) (w := { c.w with drawn := c.w.drawn + 1 }) hI rfl rfl rfl rfl
    refine wp_region_any hm ?_
    have hF : ∀ i j, i < j → i ∉ B j → Free ops (fun i => (fs[i]?).getD FP.none_) i j := fun i j hij hi x y hx hy => by
      obtain ⟨hap, hl⟩ := hpairs i j x y hij hx hy hi
      refine ⟨hap, ?_⟩
      rcases hl with hl | hl
      · have hxs := (Array.getElem?_eq_some_iff.1 hx).1
        have hys := (Array.getElem?_eq_some_iff.1 hy).1
        obtain ⟨x', b1, G1, hx', f1⟩ := runs_foot hruns i (List.mem_range.2 hxs)
        obtain ⟨y', b2, G2, hy', f2⟩ := runs_foot hruns j (List.mem_range.2 hys)
        rw [hx] at hx'
        rw [hy] at hy'
        injection hx' with hx'
        injection hy' with hy'
        subst hx'; subst hy'
        dsimp only at f1 f2 ⊢
        rw [← f1, ← f2]
        exact light_disj (touch_foot x b1 G1) (touch_foot y b2 G2) (touch_le x) (touch_le y) hl
      · have := List.all_eq_true.1 hr (i, j) hl
        dsimp only at this
        split at this
        · rename_i fx fy h1 h2
          simp only [h1, h2, Option.getD_some]
          exact this
        · cases this
    refine any_sound hP hX hR hn hd' h0 hB hF ops.size (L := List.range ops.size) (c := c.world { c.w with drawn := c.w.drawn + 1 }) (by simp) List.pairwise_lt_range (by simp) (fun i => ?_) (fun j hj => ?_) (start i1 hH (hA.mono s1.mono) rfl _) hruns (fin s1)
    · rw [List.mem_range]
      by_cases hi : i < ops.size <;> simp [hi]
    · exfalso
      by_cases hj' : j < ops.size <;> simp [hj'] at hj
  unfold evalRegion at h
  cases draw with
  | false =>
    dsimp only at h
    cases hs : steps E cp cr H.nx ops ops.toList a { H with nx := H.nx + 1 } with
    | none => rw [hs] at h; cases h
    | some p =>
      rw [hs] at h
      simp only [Option.map_some] at h
      injection h with h
      injection h with h1 h
      injection h with h2 h3
      refine ⟨h1.symm, ?_⟩
      obtain ⟨fs, hf⟩ := steps_stepsF (show steps E cp cr H.nx ops ops.toList a { H with nx := H.nx + 1 } = some (a', H') from by rw [hs, ← h2, ← h3])
      exact wp_region (list_sound hP hX hR hn hd' h0 List.nodup_range (start hI hH hA rfl _) (runs0 hf) (fin (Step.refl c)))
  | true =>
    dsimp only at h
    split at h
    · rename_i ho
      cases hs : steps E cp cr H.nx ops ops.toList a { H with nx := H.nx + 1 } with
      | none => rw [hs] at h; cases h
      | some p =>
        rw [hs] at h
        simp only [Option.map_some] at h
        injection h with h
        injection h with h1 h
        injection h with h2 h3
        refine ⟨h1.symm, ?_⟩
        obtain ⟨fs, hf⟩ := steps_stepsF (show steps E cp cr H.nx ops ops.toList a { H with nx := H.nx + 1 } = some (a', H') from by rw [hs, ← h2, ← h3])
        exact drawn ho rfl hf
    · rename_i prs _ ho
      split at h
      · rename_i a1 H1 fs hf
        split at h
        · rename_i hr
          injection h with h
          injection h with h1 h
          injection h with h2 h3
          refine ⟨h1.symm, ?_⟩
          exact drawn ho hr (by rw [hf, h2, h3])
        · cases h
      · cases h
    · cases h
end

end Go.Proofs.Ytcaemgpificohaa.A
