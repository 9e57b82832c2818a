/- A, part 16: every operation keeps to its footprint. -/
import Derived.Test.YtcaemgpificohaaA15
set_option linter.unusedVariables false
set_option linter.unusedSimpArgs false
set_option linter.unnecessarySimpa false
namespace Go.Proofs.Ytcaemgpificohaa.A
open Go

section
variable {E : Env} {cp : CallP} {cr : CallR} {st : Nat} {ops : Array Oper} {o : Oper} {a : AAct} {H H' : AH} {v : AV}

theorem opds_filter {a : AAct} : ∀ {l : List Operand} {vs : List AV}, opds a l = some vs → l.filterMap (opd a) = vs
  | [], vs, h => by simp only [opds] at h; injection h
  | x :: l, vs, h => by
    simp only [opds] at h
    split at h
    · rename_i v vs' hv hvs
      injection h with h; subst h
      rw [List.filterMap_cons, hv, opds_filter hvs]
    · cases h
theorem opds_at {a : AAct} : ∀ {l : List Operand} {vs : List AV}, opds a l = some vs → ∀ i : Nat, (l[i]?).bind (opd a) = vs[i]?
  | [], vs, h, i => by simp only [opds] at h; injection h with h; subst h; simp
  | x :: l, vs, h, i => by
    simp only [opds] at h
    split at h
    · rename_i v vs' hv hvs
      injection h with h; subst h
      cases i with
      | zero => simp [hv]
      | succ i => simpa using opds_at hvs i
    · cases h

theorem store_local {P : Program} {t : TypeId} {p x : AV} {H' : AH} (h : aStore P t p x H = some H') : ∃ D, (∀ u y, D u = some y → u ∈ tagOf p) ∧ H' = over D H ∧ ∀ H2 : AH, Same (tagOf p) H.o H2.o → aStore P t p x H2 = some (over D H2) := by
  unfold aStore at h
  split at h
  · rename_i k g off n hn
    split at h
    · rename_i r hr
      split at h
      · rename_i hc
        injection h with h; subst h
        refine ⟨upd (fun _ => none) k (.row { r with cs := splice r.cs off x.cells }), fun u y hu => ?_, over_row .., fun H2 hs => ?_⟩
        · unfold upd at hu
          split at hu
          · rename_i e; simp [tagOf, e]
          · cases hu
        · simp only [aStore, hn, aRow_same (g := g) (hs k (by simp [tagOf])), hr]
          rw [if_pos hc, ← over_row]
          rfl
      · cases h
    · cases h
  · cases h

theorem append_local {P : Program} {tg : Tag} {t xt : TypeId} {s x : AV} {H' : AH} (h : aAppend P tg t xt s x H = some (v, H')) :
    ∃ D, (∀ u y, D u = some y → u ∈ tg :: tagOf s) ∧ H' = over D H ∧ ∀ H2 : AH, Same (tagOf x ++ (tg :: tagOf s)) H.o H2.o → aAppend P tg t xt s x H2 = some (v, over D H2) := by
  unfold aAppend at h
  split at h
  · cases h
  · rename_i e he
    split at h
    · rename_i sz by_ z m new h1 h2 h3 hsrc
      split at h
      · cases h
      · rename_i hc
        split at h
        · split at h
          · rename_i h0
            injection h with h; injection h with g1 g2
            subst g1; subst g2
            refine ⟨fun _ => none, fun u y hu => (by cases hu), rfl, fun H2 hs => ?_⟩
            simp only [aAppend, he, h1, h2, h3, src_same hs.left, hsrc, if_neg hc]
            simp only [h0, if_true]
            rfl
          · rename_i h0
            split at h
            · rename_i h4
              injection h with h; injection h with g1 g2
              subst g1; subst g2
              refine ⟨upd (fun _ => none) tg _, fun u y hu => ?_, over_row .., fun H2 hs => ?_⟩
              · unfold upd at hu
                split at hu
                · rename_i e; simp [e]
                · cases hu
              · simp only [aAppend, he, h1, h2, h3, src_same hs.left, hsrc, if_neg hc]
                simp only [h0, if_false, h4, if_true]
                rw [← over_row]
                rfl
            · cases h
        · rename_i k g n
          split at h
          · rename_i r hr
            split at h
            · rename_i h4
              injection h with h; injection h with g1 g2
              subst g1; subst g2
              refine ⟨upd (fun _ => none) k _, fun u y hu => ?_, over_row .., fun H2 hs => ?_⟩
              · unfold upd at hu
                split at hu
                · rename_i e; simp [tagOf, e]
                · cases hu
              · simp only [aAppend, he, h1, h2, h3, src_same hs.left, hsrc, if_neg hc]
                simp only [aRow_same (g := g) (hs k (by simp [tagOf])), hr]
                rw [if_pos h4, ← over_row]
                rfl
            · cases h
          · cases h
        · cases h
    · cases h

theorem copy_local {P : Program} {t : TypeId} {d x : AV} {H' : AH} (h : aCopy P t d x H = some (v, H')) :
    ∃ D, (∀ u y, D u = some y → u ∈ tagOf d) ∧ H' = over D H ∧ ∀ H2 : AH, Same (tagOf x ++ tagOf d) H.o H2.o → aCopy P t d x H2 = some (v, over D H2) := by
  unfold aCopy at h
  split at h
  · rename_i sz m new h1 hsrc
    split at h
    · rename_i k g off n
      split at h
      · rename_i r hr
        dsimp only at h
        split at h
        · rename_i h4
          injection h with h; injection h with g1 g2
          subst g1; subst g2
          refine ⟨upd (fun _ => none) k _, fun u y hu => ?_, over_row .., fun H2 hs => ?_⟩
          · unfold upd at hu
            split at hu
            · rename_i e; simp [tagOf, e]
            · cases hu
          · unfold aCopy
            simp only [h1, src_same hs.left, hsrc, aRow_same (g := g) (hs k (by simp [tagOf])), hr]
            rw [if_pos h4, ← over_row]
            rfl
        · cases h
      · cases h
    · split at h
      · rename_i h4
        injection h with h; injection h with g1 g2
        subst g1; subst g2
        refine ⟨fun _ => none, fun u y hu => (by cases hu), rfl, fun H2 hs => ?_⟩
        unfold aCopy
        simp only [h1, src_same hs.left, hsrc, h4, if_true]
        rfl
      · cases h
    · cases h
  · cases h

theorem convert_bytes {P : Program} {tg : Tag} {s t e : TypeId} {x : AV} {n : Nat} {cs : List AV} {bs : List UInt8} (h1 : P.underlying s = some (.slice e)) (h2 : P.underlying t = some .string) (he : P.underlying e = some (.int .u8)) (hc : sliceCells H.o x = some (n, cs))
    (hl : cs.length = n) (hb : aBytes cs = some bs) : aConvert P tg s t x H = some (.str bs, H) := by
  cases x with
  | str q => cases hc
  | _ => simp only [aConvert, h1, h2, he, hc, hl, if_true, hb]; rfl

theorem convert_local {P : Program} {tg : Tag} {s t : TypeId} {x : AV} {H' : AH} (h : aConvert P tg s t x H = some (v, H')) :
    ∃ D, (∀ u y, D u = some y → u ∈ [tg]) ∧ H' = over D H ∧ ∀ H2 : AH, Same (tagOf x) H.o H2.o → aConvert P tg s t x H2 = some (v, over D H2) := by
  unfold aConvert at h
  split at h
  · rename_i k k' n h1 h2
    injection h with h; injection h with g1 g2
    subst g1; subst g2
    exact ⟨fun _ => none, fun u y hu => (by cases hu), rfl, fun H2 hs => by unfold aConvert; simp only [h1, h2]; rfl⟩
  · rename_i n h1 h2
    injection h with h; injection h with g1 g2
    subst g1; subst g2
    exact ⟨fun _ => none, fun u y hu => (by cases hu), rfl, fun H2 hs => by unfold aConvert; simp only [h1, h2]; rfl⟩
  · rename_i e sx h1 h2
    split at h
    · rename_i he
      injection h with h; injection h with g1 g2
      subst g1; subst g2
      refine ⟨upd (fun _ => none) tg _, fun u y hu => ?_, over_row .., fun H2 hs => ?_⟩
      · unfold upd at hu
        split at hu
        · rename_i e; simp [e]
        · cases hu
      · unfold aConvert
        simp only [h1, h2, he]
        rw [← over_row]
        rfl
    · cases h
  · rename_i e h1 h2 hx
    split at h
    · rename_i he
      split at h
      · rename_i n cs hcs
        split at h
        · rename_i hl
          cases hb : aBytes cs with
          | none => rw [hb] at h; cases h
          | some bs =>
            rw [hb] at h
            injection h with h; injection h with g1 g2
            subst g1; subst g2
            refine ⟨fun _ => none, fun u y hu => (by cases hu), rfl, fun H2 hs => ?_⟩
            have hc2 := cells_same hs
            rw [hcs] at hc2
            exact convert_bytes h1 h2 he hc2 hl hb
        · cases h
      · cases h
    · cases h
  · cases h

theorem free_local {sc : Bool} {as_ : List AV} {r : AV} (h : freezeP sc as_ r H = some (v, H')) : ∃ D, (∀ u y, D u = some y → sc = false ∧ u ∈ as_.flatMap (viewTags H.o vDepth)) ∧ H' = over D H ∧ ∀ H2 : AH, Same (as_.flatMap (viewTags H.o vDepth)) H.o H2.o → freezeP sc as_ r H2 = some (v, over D H2) := by
  unfold freezeP at h
  split at h
  · split at h
    · rename_i hf
      injection h with h; injection h with g1 g2
      subst g1; subst g2
      exact ⟨fun _ => none, fun u y hu => (by cases hu), rfl, fun H2 hs => by simp only [freezeP, hf, if_true]; rfl⟩
    · cases h
  · injection h with h; injection h with g1 g2
    subst g1; subst g2
    have hseal : ∀ o : Tag → Option AObj, Same (as_.flatMap (viewTags H.o vDepth)) H.o o → sealed (as_.flatMap (viewTags H.o vDepth)) o = fun t => match (if (as_.flatMap (viewTags H.o vDepth)).contains t then (match H.o t with | some (.row r) => some (AObj.row { r with ro := true }) | _ => none) else none) with | some x => some x | none => o t := fun o ho => by
      funext t
      unfold sealed
      by_cases hc : (as_.flatMap (viewTags H.o vDepth)).contains t = true
      · rw [if_pos hc, ← ho t (by simpa using hc)]
        cases hr : o t with
        | none => rfl
        | some x =>
          cases x with
          | row r => simp only [hc, if_true]
          | map es => rfl
      · rw [if_neg hc]
        cases hr : o t with
        | none => rfl
        | some x =>
          cases x with
          | row r => simp only [hc, if_false]; rfl
          | map es => rfl
    refine ⟨fun t => if (as_.flatMap (viewTags H.o vDepth)).contains t then (match H.o t with | some (.row r) => some (AObj.row { r with ro := true }) | _ => none) else none, fun u y hu => ⟨rfl, ?_⟩, ?_, fun H2 hs => ?_⟩
    · dsimp only at hu
      split at hu
      · rename_i hc; simpa using hc
      · cases hu
    · simp only [over, AH.mk.injEq, and_true]
      exact hseal H.o (fun _ _ => rfl)
    · have := (views_same vDepth as_ hs).1
      simp only [freezeP, this, over, Option.some.injEq, Prod.mk.injEq, AH.mk.injEq, and_true, true_and]
      exact hseal H2.o hs

theorem evalOp_local (hw : wantedA ops a o = some true) (hall : (foot E st ops o a H).all = false) (h : evalOp E cp cr st o a H = some (v, H')) : ∃ D, Local (evalOp E cp cr st o a) (foot E st ops o a) H v H' D := by
  have flat : ∀ {x : Option AV}, (∀ H2, foot E st ops o a H2 = FP.none_) → (∀ H2, evalOp E cp cr st o a H2 = x.map (·, H2)) → ∃ D, Local (evalOp E cp cr st o a) (foot E st ops o a) H v H' D := fun hf he => local_flat hw hf he h
  have hft := foot_go (E := E) (st := st) hw
  have h' := h
  unfold evalOp at h'
  split at h'
  · rename_i x ho
    exact flat (x := opd a x) (fun H2 => by rw [hft]; simp only [ho]) (fun H2 => by simp only [evalOp, ho])
  · rename_i x ho
    exact flat (x := opd a x) (fun H2 => by rw [hft]; simp only [ho]) (fun H2 => by simp only [evalOp, ho])
  · rename_i c x y ho
    refine flat (x := match opd a c with | some (.bool true) => opd a x | some (.bool false) => opd a y | _ => none) (fun H2 => by rw [hft]; simp only [ho]) (fun H2 => ?_)
    simp only [evalOp, ho]
    rcases opd a c with _ | v
    · rfl
    · cases v with
      | bool b => cases b <;> rfl
      | _ => rfl
  · rename_i e ho
    split at h'
    · rename_i d z hd hz
      exact local_make hd (fun H2 => by rw [hft]; simp only [ho, hd]) (x := some (.ptr (st, d) (st, d) 0, .row { elem := e, sz := 1, gen := (st, d), ro := false, plain := true, cs := z })) (fun H2 => by simp only [evalOp, ho, hd, hz, Option.map_some]; rfl) h
    · cases h'
  · rename_i e x ho
    split at h'
    · rename_i d z hd hz
      split at h'
      · rename_i hc
        exact local_make hd (fun H2 => by rw [hft]; simp only [ho, hd]) (x := some (.ptr (st, d) (st, d) 0, .row { elem := e, sz := 1, gen := (st, d), ro := false, plain := true, cs := z.cells })) (fun H2 => by simp only [evalOp, ho, hd, hz, hc, if_true, Option.map_some]; rfl) h
      · cases h'
    · cases h'
  · rename_i t parts ho
    refine flat (x := (partsOf a parts.toList).bind fun ps => aBuild E.P t ps) (fun H2 => by rw [hft]; simp only [ho]) (fun H2 => ?_)
    simp only [evalOp, ho, Option.map_bind]
    rfl
  · rename_i t len parts ho
    replace h' := needD_some h'
    obtain ⟨d, hd, h'⟩ := h'
    refine local_make hd (fun H2 => by rw [hft]; simp only [ho, hd]) (x := (partsOf a parts.toList).bind fun ps => (tElem E.P t).bind fun e => match tSize E.P e, tZero E.P e with
      | some sz, some z => if len * sz ≤ 16777216 ∧ z.length = sz ∧ 0 < sz then (fillA (fun i => some (i * sz, sz)) (rep z len) ps).map fun cs => (.ref (st, d) (st, d) 0 len, .row { elem := e, sz, gen := (st, d), ro := false, plain := true, cs }) else none
      | _, _ => none) (fun H2 => ?_) h
    simp only [evalOp, ho, hd, needD]
    cases partsOf a parts.toList with
    | none => rfl
    | some ps =>
      simp only [Option.bind_some, aBuildSlice]
      cases tElem E.P t with
      | none => rfl
      | some e =>
        simp only [Option.bind_some]
        cases tSize E.P e with
        | none => rfl
        | some sz =>
          cases tZero E.P e with
          | none => rfl
          | some z =>
            dsimp only
            split
            · cases fillA (fun i => some (i * sz, sz)) (rep z len) ps with
              | none => rfl
              | some cs => rfl
            · rfl
  · rename_i t x ho
    replace h' := bind_some' h'
    obtain ⟨p, hp, h'⟩ := h'
    replace h' := mapH h'
    obtain ⟨hv, rfl⟩ := h'
    have hf : ∀ H2, foot E st ops o a H2 = ⟨tagOf p, [], false⟩ := fun H2 => by rw [hft]; simp only [ho, hp, tagO]
    refine ⟨fun _ => none, { w := fun t x h => (by cases h), out := rfl, same := fun H2 hs => ⟨?_, by rw [hf, hf]⟩ }⟩
    simp only [evalOp, ho, hp, Option.bind_some]
    rw [load_same (by simpa [hf] using hs), hv]
    rfl
  · rename_i t p x ho
    replace h' := bind_some' h'
    obtain ⟨pv, hp, h'⟩ := h'
    replace h' := bind_some' h'
    obtain ⟨xv, hx, h'⟩ := h'
    have hf : ∀ H2, foot E st ops o a H2 = ⟨[], tagOf pv, false⟩ := fun H2 => by rw [hft]; simp only [ho, hp, tagO]
    cases hs0 : aStore E.P t pv xv H with
    | none => rw [hs0] at h'; cases h'
    | some H1 =>
      rw [hs0] at h'
      simp only [Option.map_some] at h'
      injection h' with h'
      injection h' with g1 g2
      subst g1; subst g2
      obtain ⟨D, d1, d2, d3⟩ := store_local hs0
      refine ⟨D, { w := fun u y hu => (by rw [hf]; exact d1 u y hu), out := d2, same := fun H2 hs => ⟨?_, by rw [hf, hf]⟩ }⟩
      simp only [evalOp, ho, hp, hx, Option.bind_some]
      rw [d3 H2 (by simpa [hf] using hs)]
      rfl
  · rename_i x ho
    refine flat (x := match opd a x with
      | some (.ptr k g off) => some (.ptr k g off)
      | some (.fptr cs) => some (.fptr cs)
      | some (.fn (.func f) first captured) => some (.fn (.func f) first captured)
      | _ => none) (fun H2 => by rw [hft]; simp only [ho]) (fun H2 => ?_)
    simp only [evalOp, ho]
    rcases opd a x with _ | v
    · rfl
    · cases v with
      | fn f p q => cases f <;> rfl
      | _ => rfl
  · rename_i op t x y _ ho
    refine flat (x := (opd a x).bind fun u => (opd a y).bind fun v => aBin E.P op t u v) (fun H2 => by rw [hft]; simp only [ho]) (fun H2 => ?_)
    simp only [evalOp, ho]
    cases opd a x with
    | none => rfl
    | some u => cases opd a y <;> rfl
  · rename_i op t x ho
    refine flat (x := (opd a x).bind fun u => aUn op u) (fun H2 => by rw [hft]; simp only [ho]) (fun H2 => ?_)
    simp only [evalOp, ho, Option.map_bind]
    rfl
  · rename_i s t x ho
    replace h' := needD_some h'
    obtain ⟨d, hd, h'⟩ := h'
    replace h' := bind_some' h'
    obtain ⟨u, hu, h'⟩ := h'
    have hf : ∀ H2, foot E st ops o a H2 = ⟨tagOf u, [(st, d)], false⟩ := fun H2 => by rw [hft]; simp only [ho, hu, tagO, hd]
    obtain ⟨D, d1, d2, d3⟩ := convert_local h'
    refine ⟨D, { w := fun u y hu => (by rw [hf]; exact d1 u y hu), out := d2, same := fun H2 hs => ⟨?_, by rw [hf, hf]⟩ }⟩
    simp only [evalOp, ho, hd, hu, needD, Option.bind_some]
    exact d3 H2 (by rw [hf] at hs; exact hs.left)
  · rename_i fn first captured ho
    refine flat (x := match opds a first.toList, opds a captured.toList with
      | some f, some c => some (.fn fn f c)
      | _, _ => none) (fun H2 => by rw [hft]; simp only [ho]) (fun H2 => ?_)
    simp only [evalOp, ho]
    cases opds a first.toList with
    | none => rfl
    | some f => cases opds a captured.toList <;> rfl
  · rename_i t l c ho
    replace h' := needD_some h'
    obtain ⟨d, hd, h'⟩ := h'
    refine local_make hd (fun H2 => by rw [hft]; simp only [ho, hd]) (x := (opdI a l).bind fun l => (opdI a c).bind fun c => (tElem E.P t).bind fun e => match tSize E.P e, tBytes E.P e, tZero E.P e with
      | some sz, some by_, some z => if 0 ≤ l ∧ l ≤ c ∧ c * by_ ≤ 140737488355328 ∧ c ≤ 140737488355328 ∧ z.length = sz ∧ 0 < sz then some (.ref (st, d) (st, d) 0 l.toNat, .row { elem := e, sz, gen := (st, d), ro := false, plain := true, cs := rep z l.toNat }) else none
      | _, _, _ => none) (fun H2 => ?_) h
    simp only [evalOp, ho, hd, needD]
    cases opdI a l with
    | none => rfl
    | some l =>
      cases opdI a c with
      | none => rfl
      | some c =>
        simp only [Option.bind_some, aMakeSlice]
        cases tElem E.P t with
        | none => rfl
        | some e =>
          simp only [Option.bind_some]
          cases tSize E.P e with
          | none => rfl
          | some sz =>
            cases tBytes E.P e with
            | none => rfl
            | some by_ =>
              cases tZero E.P e with
              | none => rfl
              | some z =>
                dsimp only
                split <;> rfl
  · rename_i t x lo hi ho
    refine flat (x := (opd a x).bind fun v => (opdB a lo).bind fun l => (opdB a hi).bind fun h => aSlice E.P t v l h) (fun H2 => by rw [hft]; simp only [ho]) (fun H2 => ?_)
    simp only [evalOp, ho]
    cases opd a x with
    | none => rfl
    | some u =>
      cases opdB a lo with
      | none => rfl
      | some l => cases opdB a hi <;> rfl
  · rename_i t x f ho
    refine flat (x := match opd a x, tField E.P t f with
      | some (.ptr k g off), some (o', ft) => if (tSize E.P ft).getD 0 = 0 then none else some (.ptr k g (off + o'))
      | some (.fptr cs), some (o', ft) => if (tSize E.P ft).getD 0 = 0 then none else some (.fptr (cs.drop o'))
      | _, _ => none) (fun H2 => by rw [hft]; simp only [ho]) (fun H2 => ?_)
    simp only [evalOp, ho]
    rcases opd a x with _ | v
    · rfl
    · rcases tField E.P t f with _ | ⟨o', ft⟩
      · cases v <;> rfl
      · cases v with
        | ptr k g off => dsimp only; split <;> rfl
        | fptr cs => dsimp only; split <;> rfl
        | _ => rfl
  · rename_i t x f ho
    refine flat (x := match opd a x, tField E.P t f with
      | some (.agg cs), some (o', ft) => takeT E.P ft (cs.drop o')
      | _, _ => none) (fun H2 => by rw [hft]; simp only [ho]) (fun H2 => ?_)
    simp only [evalOp, ho]
    rcases opd a x with _ | v
    · rfl
    · rcases tField E.P t f with _ | ⟨o', ft⟩
      · cases v <;> rfl
      · cases v <;> rfl
  · rename_i t x i ho
    refine flat (x := (opd a x).bind fun v => (opdI a i).bind fun j => aIndexAddr E.P t v j) (fun H2 => by rw [hft]; simp only [ho]) (fun H2 => ?_)
    simp only [evalOp, ho]
    cases opd a x with
    | none => rfl
    | some u => cases opdI a i <;> rfl
  · rename_i t x i ho
    refine flat (x := (opd a x).bind fun v => (opdI a i).bind fun j => aIndex E.P t v j) (fun H2 => by rw [hft]; simp only [ho]) (fun H2 => ?_)
    simp only [evalOp, ho]
    cases opd a x with
    | none => rfl
    | some u => cases opdI a i <;> rfl
  · rename_i t i ho
    refine flat (x := match opd a t with
      | some (.tup vs) => vs[i]?
      | _ => none) (fun H2 => by rw [hft]; simp only [ho]) (fun H2 => ?_)
    simp only [evalOp, ho]
    rcases opd a t with _ | v
    · rfl
    · cases v <;> rfl
  · rename_i cl ho
    replace h' := bind_some' h'
    obtain ⟨args, hargs, h'⟩ := h'
    split at h'
    · rename_i f hcal
      replace h' := bind_some' h'
      obtain ⟨fv, hfv, h'⟩ := h'
      unfold aCall at h'
      split at h'
      · rename_i g first captured
        dsimp only at h'
        have hf : ∀ H2, foot E st ops o a H2 = (match E.mode g with
          | .pure true => ⟨(first ++ args ++ captured).flatMap (viewTags H2.o vDepth), [], false⟩
          | .ext true => ⟨(first ++ args ++ captured).flatMap (viewTags H2.o vDepth), [], false⟩
          | .pure false => ⟨(first ++ args ++ captured).flatMap (viewTags H2.o vDepth), (first ++ args ++ captured).flatMap (viewTags H2.o vDepth), false⟩
          | .ext false => ⟨(first ++ args ++ captured).flatMap (viewTags H2.o vDepth), (first ++ args ++ captured).flatMap (viewTags H2.o vDepth), false⟩
          | .raw _ => ⟨[], [], true⟩) := fun H2 => by
            rw [hft]
            simp only [ho, hcal, hfv, opds_filter hargs]
            cases E.mode g with
            | pure b => cases b <;> rfl
            | ext b => cases b <;> rfl
            | raw b => rfl
        have pure : ∀ {cp' : CallP} {sc : Bool}, (∀ H2, foot E st ops o a H2 = ⟨(first ++ args ++ captured).flatMap (viewTags H2.o vDepth), if sc then [] else (first ++ args ++ captured).flatMap (viewTags H2.o vDepth), false⟩) →
            (∀ H2 : AH, evalOp E cp cr st o a H2 = (cp' g ((first ++ args ++ captured).map (view H2.o vDepth))).bind fun r => freezeP sc (first ++ args ++ captured) r H2) → ∃ D, Local (evalOp E cp cr st o a) (foot E st ops o a) H v H' D := fun {cp' sc} hf he => by
          rw [he] at h
          replace h := bind_some' h
          obtain ⟨r, hr, h⟩ := h
          obtain ⟨D, d1, d2, d3⟩ := free_local h
          refine ⟨D, { w := fun u y hu => ?_, out := d2, same := fun H2 hs => ?_ }⟩
          · obtain ⟨e, hm⟩ := d1 u y hu
            rw [hf, e]
            exact hm
          · rw [hf] at hs
            obtain ⟨j1, j2⟩ := views_same vDepth _ hs.left
            refine ⟨?_, ?_⟩
            · rw [he, j2, hr]
              exact d3 H2 hs.left
            · rw [hf, hf, j1]
        split at h'
        · rename_i sc hm
          refine pure (cp' := cp) (sc := sc) (fun H2 => ?_) (fun H2 => ?_)
          · rw [hf, hm]
            cases sc <;> rfl
          · simp only [evalOp, ho, hargs, hcal, hfv, Option.bind_some, aCall, hm]
        · rename_i sc hm
          refine pure (cp' := E.ext) (sc := sc) (fun H2 => ?_) (fun H2 => ?_)
          · rw [hf, hm]
            cases sc <;> rfl
          · simp only [evalOp, ho, hargs, hcal, hfv, Option.bind_some, aCall, hm]
        · rename_i frz hm
          rw [hf, hm] at hall
          cases hall
      · cases h'
    · rename_i hcal
      split at h'
      · rename_i x
        replace h' := mapH h'
        obtain ⟨hv, rfl⟩ := h'
        have hf : ∀ H2 H3, foot E st ops o a H2 = foot E st ops o a H3 := fun H2 H3 => by rw [hft, hft]; simp only [ho, hcal]
        have hf2 : (foot E st ops o a H').w = [] := by rw [hft]; simp only [ho, hcal]
        refine ⟨fun _ => none, { w := fun t x h => (by cases h), out := rfl, same := fun H2 hs => ⟨?_, hf _ _⟩ }⟩
        have : ∀ o', aLen E.P o' (cl.argTypes.getD 0 0) x = aLen E.P H'.o (cl.argTypes.getD 0 0) x := fun o' => by unfold aLen; rfl
        simp only [evalOp, ho, hargs, hcal, Option.bind_some]
        rw [this, hv]
        rfl
      · cases h'
    · rename_i hcal
      split at h'
      · rename_i s x
        split at h'
        · rename_i h2
          replace h' := needD_some h'
          obtain ⟨d, hd, h'⟩ := h'
          have hf : ∀ H2, foot E st ops o a H2 = ⟨tagOf x, (st, d) :: tagOf s, false⟩ := fun H2 => by
            rw [hft]
            simp only [ho, hcal, opds_at hargs, hd]
            rfl
          obtain ⟨D, d1, d2, d3⟩ := append_local h'
          refine ⟨D, { w := fun u y hu => (by rw [hf]; exact d1 u y hu), out := d2, same := fun H2 hs => ⟨?_, by rw [hf, hf]⟩ }⟩
          simp only [evalOp, ho, hargs, hcal, Option.bind_some, h2, if_true, hd, needD]
          exact d3 H2 (by rw [hf] at hs; exact hs)
        · cases h'
      · cases h'
    · rename_i hcal
      split at h'
      · rename_i s x
        generalize hg : cl.argTypes.getD 0 0 = ty0 at h'
        split at h'
        · rename_i h2
          have hf : ∀ H2, foot E st ops o a H2 = ⟨tagOf x, tagOf s, false⟩ := fun H2 => by
            rw [hft]
            simp only [ho, hcal, opds_at hargs]
            rfl
          obtain ⟨D, d1, d2, d3⟩ := copy_local h'
          refine ⟨D, { w := fun u y hu => (by rw [hf]; exact d1 u y hu), out := d2, same := fun H2 hs => ⟨?_, by rw [hf, hf]⟩ }⟩
          simp only [evalOp, ho, hargs, hcal, Option.bind_some, hg]
          rw [if_pos h2]
          exact d3 H2 (by rw [hf] at hs; exact hs)
        · cases h'
      · cases h'
    · rename_i hcal
      replace h' := mapH h'
      obtain ⟨hv, rfl⟩ := h'
      have hf : ∀ H2 H3, foot E st ops o a H2 = foot E st ops o a H3 := fun H2 H3 => by rw [hft, hft]; simp only [ho, hcal]
      exact ⟨fun _ => none, { w := fun t x h => (by cases h), out := rfl, same := fun H2 hs => ⟨by simp only [evalOp, ho, hargs, hcal, Option.bind_some, hv]; rfl, hf _ _⟩ }⟩
    · rename_i hcal
      replace h' := mapH h'
      obtain ⟨hv, rfl⟩ := h'
      have hf : ∀ H2 H3, foot E st ops o a H2 = foot E st ops o a H3 := fun H2 H3 => by rw [hft, hft]; simp only [ho, hcal]
      exact ⟨fun _ => none, { w := fun t x h => (by cases h), out := rfl, same := fun H2 hs => ⟨by simp only [evalOp, ho, hargs, hcal, Option.bind_some, hv]; rfl, hf _ _⟩ }⟩
    · cases h'
  · cases h'
end

end Go.Proofs.Ytcaemgpificohaa.A
