/- A, part 22: calls. -/
import Derived.Test.YtcaemgpificohaaA21
set_option linter.unusedVariables false
set_option linter.unusedSimpArgs false
set_option linter.unnecessarySimpa false
namespace Go.Proofs.Ytcaemgpificohaa.A
open Go

section
variable {P : Program} {c : Ctx} {a : AAct} {ca : Act} {H : AH}

def runResult (ca : Act) : ResultVar → Sem Value
  | .tmp t => pure (ca.tmps.getD t undef)
  | .cell ad t => do loadVar t (← asAddr (ca.tmps.getD ad undef))
theorem result1_rel (hI : Inv c) (hH : c.H = H.o) (hA : AR c a ca) {r : ResultVar} {v : AV} (h : result1 P a H r = some v) : ∃ cv, (runResult ca r).run P c.w = .ok cv c.w ∧ VR c v cv := by
  cases r with
  | tmp t =>
    simp only [result1] at h
    injection h with h; subst h
    exact ⟨_, rfl, hA.slot t⟩
  | cell ad t =>
    simp only [result1] at h
    have hs := hA.slot ad
    obtain ⟨cv, h1, h2⟩ := aLoad_rel hI hH hs h
    have : ∃ ax, ca.tmps.getD ad undef = .pointer (some ax) := by
      unfold aLoad at h
      split at h
      · rename_i k g off e
        rw [e] at hs
        obtain ⟨_, _, ax, e2, _⟩ := hs.ptr_
        exact ⟨ax, e2⟩
      · rename_i cs e
        rw [e] at hs
        obtain ⟨ax, e2, _⟩ := hs.fptr_
        exact ⟨ax, e2⟩
      · cases h
    obtain ⟨ax, e⟩ := this
    refine ⟨cv, ?_, h2⟩
    rw [e] at h1
    simp only [runResult, e]
    simpa [Instr.loadAt, Instr.sureAddr, asAddr] using h1
theorem resultsL_rel (hI : Inv c) (hH : c.H = H.o) (hA : AR c a ca) : ∀ {rs : List ResultVar} {vs : List AV}, resultsL P a H rs = some vs → ∃ cvs, (rs.mapM (m := Sem) (runResult ca)).run P c.w = .ok cvs c.w ∧ LR (VR c) vs cvs
  | [], vs, h => by
    simp only [resultsL] at h
    injection h with h; subst h
    exact ⟨[], rfl, LR.nil⟩
  | r :: rs, vs, h => by
    simp only [resultsL] at h
    split at h
    · rename_i v vs' hv hvs
      injection h with h; subst h
      obtain ⟨cv, h1, h2⟩ := result1_rel hI hH hA hv
      obtain ⟨cvs, h3, h4⟩ := resultsL_rel hI hH hA hvs
      refine ⟨cv :: cvs, ?_, LR.cons h2 h4⟩
      simp only [List.mapM_cons, Sem.run_bind, h1, Result.andThen_ok, h3, Sem.run_pure]
    · cases h
theorem results_rel (hI : Inv c) (hH : c.H = H.o) (hA : AR c a ca) {fn : Func} {vs : List AV} (h : resultsL P a H fn.results.toList = some vs) : ∃ cv, (results fn ca.tmps).run P c.w = .ok cv c.w ∧ VR c (tup1 vs) cv := by
  obtain ⟨cvs, h1, h2⟩ := resultsL_rel hI hH hA h
  have hm : (fn.results.mapM (m := Sem) (runResult ca)).run P c.w = .ok cvs.toArray c.w := by
    rw [Array.mapM_eq_mapM_toList, Sem.run_map, h1]
    rfl
  have hf : results fn ca.tmps = (do let vs ← fn.results.mapM (m := Sem) (runResult ca); pure (if h : vs.size = 1 then vs[0] else .tuple vs)) := by
    unfold results
    congr 2
  refine ⟨if h : cvs.toArray.size = 1 then cvs.toArray[0] else .tuple cvs.toArray, ?_, ?_⟩
  · rw [hf, Sem.run_bind, hm, Result.andThen_ok]
    rfl
  · match vs, cvs, h2 with
    | [v], [cv], h2 => exact h2.2 0 v cv rfl rfl
    | [], [], h2 => exact .tup [] #[] rfl (fun j x u hx => by simp at hx)
    | v :: v2 :: vs, cv :: cv2 :: cvs, h2 =>
      rw [dif_neg (by simp)]
      exact .tup _ _ (by simpa using h2.1) (fun j x u hx hu => h2.2 j x u hx (by simpa using hu))
    | [], cv :: cvs, h2 => have := h2.1; simp at this
    | v :: vs, [], h2 => have := h2.1; simp at this
    | [v], cv :: cv2 :: cvs, h2 => have := h2.1; simp at this
    | v :: v2 :: vs, [cv], h2 => have := h2.1; simp at this

theorem begin_rel {args : List AV} {cargs : List Value} {n : Nat} (h : LR (VR c) args cargs) : AR c (begin_ args) { tmps := cargs.toArray ++ Array.replicate (n - cargs.toArray.size) undef, defers := [] } := by
  refine ⟨rfl, fun t => ?_⟩
  simp only [begin_, Array.getD_eq_getD_getElem?]
  by_cases ht : t < args.length
  · have ht' : t < cargs.length := by rw [h.1]; exact ht
    have : (cargs.toArray ++ Array.replicate (n - cargs.toArray.size) undef)[t]? = some cargs[t] := by
      rw [Array.getElem?_append_left (by simpa using ht')]
      simp [ht']
    rw [this, List.getElem?_eq_getElem ht]
    exact h.2 t _ _ (List.getElem?_eq_getElem ht) (List.getElem?_eq_getElem ht')
  · have h1 : args[t]? = none := List.getElem?_eq_none (by omega)
    rw [h1]
    have : ((cargs.toArray ++ Array.replicate (n - cargs.toArray.size) undef)[t]?).getD undef = undef := by
      rw [Array.getElem?_append_right (by simp [h.1]; omega), Array.getElem?_replicate]
      split <;> rfl
    rw [this]
    exact VR.noV_ c

theorem fnOk_enter {fn : Func} {f : FuncId} (hf : P.funcs[f]? = some fn) (h : fnOk fn = true) : EnterOk P f ∧ ∃ d, fn.body = some d ∧ codeDst fn.ntmps d = true := by
  unfold fnOk at h
  simp only [Bool.and_eq_true, Bool.not_eq_true'] at h
  cases hb : fn.body with
  | none => rw [hb] at h; cases h.2
  | some d =>
    rw [hb] at h
    exact ⟨⟨fn, hf, h.1, by simp [hb]⟩, d, rfl, h.2⟩

/-- What a body's run says, from any context. -/
theorem body_sound {E : Env} {cp : CallP} {cr : CallR} (hP : CPSound E.P cp) (hX : CPSound E.P E.ext) (hR : CRSound E.P cr) (hm : E.P.follows .mixedOrders = true) (hU : Up cr) {k : Nat} {f : FuncId} {args : List AV} {H H' : AH} {v : AV} (h : runBody E cp cr k f args H = some (v, H')) :
    EnterOk E.P f ∧ H.nx ≤ H'.nx ∧ ∀ (c : Ctx) (cargs : List Value), Inv c → c.H = H.o → (∀ t, c.T t → t.1 < H.nx) → LR (VR c) args cargs → Calls E.P f cargs.toArray c.w (RetR c H.nx H'.nx H'.o v) := by
  have hle := body_nx hU h
  unfold runBody at h
  split at h
  · cases h
  · rename_i fn hfn
    split at h
    · rename_i hok
      simp only [Bool.and_eq_true, decide_eq_true_eq] at hok
      obtain ⟨hE, d, hd, hdst⟩ := fnOk_enter hfn hok.1
      refine ⟨hE, hle, fun c cargs hI hH hT hargs => ?_⟩
      rw [hd] at h
      dsimp only at h
      have hlen : cargs.length ≤ fn.ntmps := by rw [hargs.1]; exact hok.2
      have here : Here fn.ntmps H.nx c.T c (begin_ args) { tmps := cargs.toArray ++ Array.replicate (fn.ntmps - cargs.toArray.size) undef, defers := [] } H :=
        ⟨hI, hH, begin_rel hargs, by simp; omega, Nat.le_refl _, hT, fun t ht => .inl ht⟩
      have fin : ∀ {out : Out} {a1 : AAct} {H1 : AH}, (out = .normal ∨ out = .ret) → evalC E cp cr k none d (begin_ args) H = some (out, a1, H1) → ((resultsL E.P a1 H1 fn.results.toList).map fun vs => (tup1 vs, H1)) = some (v, H') → Calls E.P f cargs.toArray c.w (RetR c H.nx H'.nx H'.o v) := fun {out a1 H1} ho he hr => by
        cases hrs : resultsL E.P a1 H1 fn.results.toList with
        | none => rw [hrs] at hr; cases hr
        | some vs =>
          rw [hrs] at hr
          simp only [Option.map_some] at hr
          injection hr with hr; injection hr with h1 h2
          subst h1; subst h2
          refine calls_of_wp hfn hd (wp_mono (evalC_sound (n := fn.ntmps) (nx0 := H.nx) (T0 := c.T) hP hX hR hm hU k d none d hdst rfl c _ _ H out a1 H1 here he) ?_)
          rintro e ca1 w1 ⟨rfl, c1, rfl, s1, hh1⟩
          obtain ⟨cv, hres, hv⟩ := results_rel hh1.inv hh1.heap hh1.act hrs
          have hret : RetR c H.nx H1.nx H1.o (tup1 vs) (.returned cv) c1.w := ⟨cv, c1, rfl, rfl, hh1.inv, s1, hh1.heap, hv, fun t ht => (hh1.old t ht).imp id (fun h => ⟨h, hh1.nx t ht⟩)⟩
          rcases ho with rfl | rfl
          · exact ⟨hh1.act.defers, cv, hres, hret⟩
          · exact ⟨hh1.act.defers, cv, hres, hret⟩
      split at h
      · rename_i a1 H1 he
        exact fin (.inl rfl) he h
      · rename_i a1 H1 he
        exact fin (.inr rfl) he h
      · cases h
    · cases h

/-- The context of a call on data. -/
def Ctx.data (S : Nat → Prop) (w : World) : Ctx := { S := S, φ := fun _ => 0, H := fun _ => none, T := fun _ => False, w := w }
theorem inv_data {S : Nat → Prop} {w : World} (h : ∀ b, S b → b < w.heap.size) : Inv (Ctx.data S w) :=
  ⟨h, fun k r hr => (by cases hr), fun k es hes => (by cases hes), fun k k' hk => (by obtain ⟨o, ho, _⟩ := hk; cases ho)⟩

theorem calls_sound (E : Env) (hX : CPSound E.P E.ext) (hm : E.P.follows .mixedOrders = true) : ∀ n, CPSound E.P (calls E n).1 ∧ CRSound E.P (calls E n).2
  | 0 => ⟨fun g args r h => (by simp only [calls] at h; cases h), fun g args H v H' h => (by simp only [calls] at h; cases h)⟩
  | n + 1 => by
    obtain ⟨hP, hR⟩ := calls_sound E hX hm n
    have hU := calls_nx E n
    refine ⟨fun g args r h => ?_, fun g args H v H' h => ?_⟩
    · simp only [calls] at h
      cases hb : runBody E (calls E n).1 (calls E n).2 (n + 1) g args noHeap with
      | none => rw [hb] at h; cases h
      | some p =>
        obtain ⟨v, H'⟩ := p
        rw [hb] at h
        simp only [Option.map_some] at h
        injection h with h
        subst h
        obtain ⟨hE, _, hc⟩ := body_sound hP hX hR hm hU hb
        refine ⟨hE, fun S w cargs ha hS => ?_⟩
        refine (hc (Ctx.data S w) cargs (inv_data hS) rfl (fun t ht => ht.elim) (ha.weak fun x u _ h => .data x u h)).mono ?_
        rintro e w' ⟨u, c', rfl, rfl, hi, hs, hH, hv, _⟩
        obtain ⟨i2, s2⟩ := shut_rows hi (viewTags c'.H vDepth v)
        have s3 := hs.trans s2
        have dead : ∀ k, ¬ Live (Ctx.data S w) k := fun k hk => by obtain ⟨o, ho, _⟩ := hk; cases ho
        refine ⟨u, (c'.shut (viewTags c'.H vDepth v)).S, rfl, ⟨hs.os, hs.tape, hs.output, hs.size, fun b hb => hs.keep b hb (fun k hk => (dead k hk).elim)⟩, ?_, s3.mono.S, fun b hb => ⟨?_, i2.imm b hb⟩⟩
        · rw [← hH]
          exact view_rel hi _ s2.mono.S vDepth v u hv (fun k rr hk hrow => .inr ⟨k, rr, hk, hrow, rfl⟩)
        · rcases s3.Snew b hb with h1 | h1 | ⟨k, hk, _⟩
          · exact .inl h1
          · exact .inr h1
          · exact (dead k hk).elim
    · simp only [calls] at h
      exact body_sound hP hX hR hm hU h
end

end Go.Proofs.Ytcaemgpificohaa.A
