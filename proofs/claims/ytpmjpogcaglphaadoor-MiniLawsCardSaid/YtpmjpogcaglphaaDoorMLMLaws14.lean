/- A, part 33: a law's row that lists variables, from its contract. -/
import Derived.ChangeVars
import Derived.JoinedOf
import Derived.LaidLaws
import Derived.LaidHandle
import Derived.RowKit
import Derived.Test.YtpmjpogcaglphaaDoorMLMLaws4
set_option linter.unusedVariables false
set_option linter.unusedSimpArgs false
set_option linter.unnecessarySimpa false
namespace Go.Proofs.YtpmjpogcaglphaaDoor.A
open Go Go.ChangeShapes
theorem O1 {P : Program} {L : List (String × DataW Unit)} (h : (L.filter fun x => x.2.handleName?.isSome) = []) (w : World) : laidMetH P L w = laidMet P L w := by
 unfold laidMetH
 rw [h]
theorem ap4 {P : Program} {w : World} {n : String} {d : DataW Unit} : ∀ {L : List (String × DataW Unit)} {ps : List MemPlace}, DataW.LaidVars P w L ps → (n, d) ∈ L →
  ∃ g t cs fuel p, P.globalNamed n = some g ∧ (P.globals[g]?).map (·.type) = some t ∧ w.var? P n = some cs ∧ DataW.trod (fun _ => ()) P w 0 (fun _ => true) false fuel t cs.toList = some (d, p)
 | [], _, _, h => by cases h
 | (m, e) :: L, ps, hv, h => by
  obtain ⟨g, t, cs, fuel, p, q, h1, h2, h3, h4, h5, _⟩ := hv
  rcases List.mem_cons.1 h with e1 | h
  ·injection e1 with e1 e2
   subst e1 e2
   exact ⟨g, t, cs, fuel, p, h1, h2, h3, h4⟩
  ·exact ap4 h5 h
theorem bC9 {P : Program} {w : World} {n : String} {g : Nat} {cs : Array Value} (hg : P.globalNamed n = some g) (h : w.var? P n = some cs) : ∃ t m, w.heap[g]? = some (.cells cs t m) := by
 unfold World.var? at h
 rw [hg] at h
 simp only [Option.bind_some] at h
 split at h
 ·rename_i e
  injection h with h
  subst h
  exact ⟨_, _, e⟩
 ·cases h
theorem bD0 {H : Type} {enc : TypeId × Value → H} {as_ : Assume} {C : Checked} {os : Os} {f : FuncId} {fn : Func} {s : ChangeSpec} {conds : List PathCond} {apart fresh handsOn again : Bool} {L : List (String × DataW Unit)} (hnoh : (L.filter fun x => x.2.handleName?.isSome) = [])
  (own : ownKnob C.prog.godebug = none) (started : os.Started) (noInit : C.prog.inits.idxOf? f = none) (hfn : C.prog.funcs[f]? = some fn)
  (witness : ∃ (w : World) (tape : Tape) (i : Input), w.os = os ∧ (w.forCall tape i).Shaped C.prog ∧ i.vars = [] ∧ Input.okWide C.prog (w.forCall tape i) .any w.heap.size f i ∧
   ((s.pre enc C.prog fn conds apart (w.forCall tape i).memory i.args ∧ laidMetH C.prog L (w.forCall tape i).memory) ∧ sizedMet enc C.prog fn (OpenSpec.ofChange s) apart (w.forCall tape i).memory i.args) ∧ as_.holds C.prog (lone (Frame.enter C.prog f i.args .normal) [] (w.forCall tape i)))
  (hl : laidOutB C.prog = true) {ks : List TypeId} (hk : aa5 C.prog ks = true) (hks : fn.params.toList.all (fun t => ks.contains t && C.prog.readableRec t && decide (t < C.prog.types.size)) = true)
  {tb : TypeId} (hr : fn.resultTypes = #[tb]) (htb : C.prog.underlying tb = some .bool) (hv : s.vars = [])
  (hspec : ∀ ds : List (DataW H), ds.length = fn.params.toList.length → (s.fn H ds).results = [.lit (.bool true)] ∧ (s.fn H ds).args = ds ∧ (s.fn H ds).vars = [])
  (hgl : ∀ W, laidMetH C.prog L W → Gl (Old W) W) (hok : ∀ xs, bj2 C.prog fn.params.toList xs → Ok C.prog f xs (.bool true)) :
  ReturnsInHanded as_ C os f .any (fun w args => (s.pre enc C.prog fn conds apart w args ∧ laidMetH C.prog L w) ∧ sizedMet enc C.prog fn (OpenSpec.ofChange s) apart w args) (s.post enc C.prog fn apart fresh handsOn again) := by
 have hks' : ∀ t ∈ fn.params.toList, t ∈ ks ∧ C.prog.readableRec t = true ∧ t < C.prog.types.size := fun t ht => by
  have := List.all_eq_true.1 hks t ht
  simp only [Bool.and_eq_true, decide_eq_true_eq, List.contains_iff_mem] at this
  exact ⟨this.1.1, this.1.2, this.2⟩
 refine returnsInHanded_of_change_and (X := fun w _ => laidMetH C.prog L w) (fun w w' _ hh h => by rw [O1 hnoh] at h ⊢; exact laidMet.of_heap hh h) own started noInit hfn witness ?_
 intro W base args ds gs before hval hW _ _ hmet _
 have hWc := hW
 obtain ⟨p, q, hA, hV, rfl, hfz, hnd⟩ := hW
 have hlen := ah4 hA
 have hgs : gs = [] := by
  rw [hv] at hV
  exact (trodVars_none hV).1
 subst hgs
 obtain ⟨xs, hx1, hx2⟩ := av1 hl hk (fun t ht => (hks' t ht).1) (fun j t v ht hv' => hval j t v (by simpa using ht) (by simpa using hv')) hA
 obtain ⟨_, hc⟩ := hok xs hx1
 have := hc (Old W) W args.toList hx2 (fun b hb => hb) (hgl W hmet)
 refine Calls.mono (by simpa using this) ?_
 rintro e W' ⟨v, S', rfl, hb, hpr, _, _⟩
 cases hpr
 refine ⟨_, rfl, bz0 hl hWc hv hr htb ?_ (fun t ht => (hks' t ht).2) hb⟩
 rw [List.append_nil]
 exact hspec ds hlen
def df1 : Lit → Value
 | .int k n => .int k n
 | .bool b => .bool b
 | .string s => .string ⟨s.toArray⟩
 | _ => default
def ap5 : DataW Unit → Array Value
 | .agg l => (l.map fun x => match x with | .lit v => df1 v | _ => default).toArray
 | .lit v => #[df1 v]
 | _ => #[]
def cP8 (w : World) (k : Nat) (cells : Array Value) : World := { w with heap := w.heap.modify k fun
 | .cells _ t frozen => .cells cells t frozen
 | o => o }
end Go.Proofs.YtpmjpogcaglphaaDoor.A
namespace Go.Proofs.YtpmjpogcaglphaaDoor.A
open Go
section
variable {E : Env} {cr : q8} {k : Nat} {nz : Nat → Option (List (Nat × Nat))}
theorem aA1 {cp : F9} : ∀ {c rest : Code} {l : Nat} (a : n8) (H : AH), findLabel c l = some rest → y4 E cp cr k nz (some l) c a H = y4 E cp cr k nz none rest a H
 | .seq x y, rest, l, a, H, h => by
  unfold findLabel at h
  cases hx : findLabel x l with
  | some r =>
   rw [hx] at h
   injection h with h
   subst h
   simp only [y4, hx, Option.isSome_some, if_true]
   rw [aA1 a H hx]
  | none =>
   rw [hx] at h
   simp only [y4, hx, Option.isSome_none, Bool.false_eq_true, if_false]
   exact aA1 a H h
 | .label l', rest, l, a, H, h => by
  unfold findLabel at h
  split at h
  ·rename_i e
   injection h with h
   subst h
   simp only [y4, eq_of_beq e, if_true]
  ·cases h
 | .skip, _, _, _, _, h | .region _ _ _, _, _, _, _, h | .cond _ _ _, _, _, _, _, h | .block _ _, _, _, _, _, h | .loop _, _, _, _, _, h | .exit _, _, _, _, _, h | .goto _, _, _, _, _, h | .ret, _, _, _, _, h | .scope _, _, _, _, _, h => by cases h
def X7 (c : Code) (I : Nat → Nat → n8 → Ob → Nat → Prop) (m : Nat) (Q : l8) : l8 := fun u a o nx => match u with
 | .goto l => if (findLabel c l).isSome then ∃ m', m' < m ∧ I l m' a o nx else Q (.goto l) a o nx
 | u => Q u a o nx
theorem D9 {c : Code} {l : Nat} {rest : Code} (h : findLabel c l = some rest) (I m) (Q : l8) (a o nx) : X7 c I m Q (.goto l) a o nx = ∃ m', m' < m ∧ I l m' a o nx := by
 show (if (findLabel c l).isSome then _ else _) = _
 rw [h]
 rfl
theorem ah8 {c : Code} {Q : l8} (I : Nat → Nat → n8 → Ob → Nat → Prop) (step : ∀ l m a o nx rest, findLabel c l = some rest → I l m a o nx → WP E cr k nz rest a o nx (X7 c I m Q)) :
  ∀ (n m l : Nat), m < n → ∀ a o nx rest, findLabel c l = some rest → I l m a o nx → match P9 (fun l => (findLabel c l).isSome) (fun l => y4 E (fun _ _ => none) cr k nz (some l) c) n (y4 E (fun _ _ => none) cr k nz (some l) c a ⟨o, nx⟩) with | some (u, a', H') => Q u a' H'.o H'.nx | none => False
 | 0, m, l, h, _, _, _, _, _, _ => by omega
 | n + 1, m, l, h, a, o, nx, rest, hf, hI => by
  have hs := step l m a o nx rest hf hI
  rw [aA1 a ⟨o, nx⟩ hf]
  unfold WP at hs
  cases he : y4 E (fun _ _ => none) cr k nz none rest a ⟨o, nx⟩ with
  | none => rw [he] at hs; exact hs.elim
  | some p =>
   obtain ⟨u, a', H'⟩ := p
   rw [he] at hs
   cases u with
   | goto l' =>
    simp only [P9]
    simp only [X7] at hs
    cases hl : findLabel c l' with
    | none =>
     rw [hl] at hs
     exact hs
    | some r' =>
     rw [hl] at hs
     obtain ⟨m', h1, h2⟩ := hs
     exact ah8 I step n m' l' (by omega) a' H'.o H'.nx r' hl h2
   | normal => simp only [P9]; exact hs
   | exit i => simp only [P9]; exact hs
   | ret => simp only [P9]; exact hs
theorem aU8 {c : Code} {Q : l8} (I : Nat → Nat → n8 → Ob → Nat → Prop) (M : Nat) (hM : M < k) {a : n8} {o : Ob} {nx : Nat} (h0 : WP E cr k nz c a o nx (X7 c I M Q))
  (step : ∀ l m a o nx rest, findLabel c l = some rest → I l m a o nx → WP E cr k nz rest a o nx (X7 c I m Q)) : WP E cr k nz (.scope c) a o nx Q := by
 unfold WP at h0 ⊢
 simp only [y4]
 obtain ⟨k', rfl⟩ : ∃ k', k = k' + 1 := ⟨k - 1, by omega⟩
 cases he : y4 E (fun _ _ => none) cr (k' + 1) nz none c a ⟨o, nx⟩ with
 | none => rw [he] at h0; exact h0.elim
 | some p =>
  obtain ⟨u, a', H'⟩ := p
  rw [he] at h0
  cases u with
  | goto l' =>
   simp only [P9]
   simp only [X7] at h0
   cases hl : findLabel c l' with
   | none =>
    rw [hl] at h0
    exact h0
   | some r' =>
    rw [hl] at h0
    obtain ⟨m', h1, h2⟩ := h0
    exact ah8 I step k' m' l' (by omega) a' H'.o H'.nx r' hl h2
  | normal => simp only [P9]; exact h0
  | exit i => simp only [P9]; exact h0
  | ret => simp only [P9]; exact h0
end
end Go.Proofs.YtpmjpogcaglphaaDoor.A
