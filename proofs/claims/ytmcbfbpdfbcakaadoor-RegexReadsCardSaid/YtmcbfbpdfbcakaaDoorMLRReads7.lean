/- A, part 31: contracts on the caller's memory, as relations. -/
import Derived.ChangeVars
import Derived.JoinedOf
import Derived.LaidLaws
import Derived.LaidHandle
import Derived.RowKit
import Derived.Test.YtmcbfbpdfbcakaaDoorTie
import Derived.Test.YtmcbfbpdfbcakaaDoorCards
import Derived.Shelf.Strings.Search1
import Derived.Shelf.Strings.OnBuilder
import Derived.Test.YtmcbfbpdfbcakaaDoorMLRReads1
import Derived.Test.YtmcbfbpdfbcakaaDoorMLRReads2
import Derived.Test.YtmcbfbpdfbcakaaDoorMLRReads3
import Derived.Test.YtmcbfbpdfbcakaaDoorMLRReads4
import Derived.Test.YtmcbfbpdfbcakaaDoorMLRReads5
import Derived.Test.YtmcbfbpdfbcakaaDoorMLRReads6
set_option linter.unusedVariables false
set_option linter.unusedSimpArgs false
set_option linter.unnecessarySimpa false
namespace Go.Proofs.YtmcbfbpdfbcakaaDoor.A
open Go
abbrev RRel := List AV → AH → AV → AH → Prop
open Classical in
noncomputable def cRel (R : RRel) (args : List AV) (H : AH) : Option (AV × AH) := if h : ∃ p : AV × AH, R args H p.1 p.2 then some h.choose else none
theorem cRel_some {R : RRel} {args H v H'} (h : cRel R args H = some (v, H')) : R args H v H' := by
  unfold cRel at h
  split at h
  · rename_i e
    have := e.choose_spec
    injection h with h
    rw [h] at this
    exact this
  · cases h
theorem cRel_call {R : RRel} {args : List AV} {H : AH} {K : AV × AH → Prop} (h1 : ∃ v H', R args H v H') (h2 : ∀ v H', R args H v H' → K (v, H')) : wO (Option.map (fun p => freezeR false p.1 p.2) (cRel R args H)) K := by
  obtain ⟨v, H', h⟩ := h1
  have e : ∃ p : AV × AH, R args H p.1 p.2 := ⟨(v, H'), h⟩
  have e2 : cRel R args H = some e.choose := by unfold cRel; rw [dif_pos e]
  rw [e2]
  exact h2 _ _ e.choose_spec
theorem runPR_of_WP {E : Env} {cr : CallR} {k : Nat} {nz : Nat → Option (List (Nat × Nat))} {fn : Func} {c : Code} {args : List AV} {o : Ob} {nx : Nat} {Post : AV → Ob → Nat → Prop} (hb : fn.body = some c)
    (h : WP E cr k nz c (begin_ args) o nx (fun u a o' nx' => (u = .normal ∨ u = .ret) ∧ wO (resultsL E.P a ⟨o', nx'⟩ fn.results.toList) (fun vs => Post (tup1 vs) o' nx'))) :
    ∃ v H', runP E cr k nz fn args ⟨o, nx⟩ = some (v, H') ∧ Post v H'.o H'.nx := by
  unfold WP at h
  unfold runP
  rw [hb]
  dsimp only
  cases he : evalP E (fun _ _ => none) cr k nz none c (begin_ args) ⟨o, nx⟩ with
  | none => rw [he] at h; exact h.elim
  | some p =>
    obtain ⟨u, a, H⟩ := p
    rw [he] at h
    obtain ⟨hu, h⟩ := h
    obtain ⟨vs, h1, h2⟩ : ∃ vs, resultsL E.P a H fn.results.toList = some vs ∧ Post (tup1 vs) H.o H.nx := by
      unfold wO at h
      split at h
      · rename_i vs e; exact ⟨vs, e, h⟩
      · exact h.elim
    rcases hu with rfl | rfl
    · dsimp only
      refine ⟨tup1 vs, H, ?_, h2⟩
      show (resultsL E.P a H fn.results.toList).map _ = _
      rw [show resultsL E.P a H fn.results.toList = some vs from h1]; rfl
    · dsimp only
      refine ⟨tup1 vs, H, ?_, h2⟩
      show (resultsL E.P a H fn.results.toList).map _ = _
      rw [show resultsL E.P a H fn.results.toList = some vs from h1]; rfl
theorem okR_of_WP {E : Env} {cr : CallR} (hX : CPSound E.P E.ext) (hR : CRSound E.P cr ∧ Up cr) (hm : E.P.follows .mixedOrders = true) {k : Nat} {nz : Nat → Option (List (Nat × Nat))} {fn : Func} {f : FuncId} {args : List AV} {o : Ob} {nx : Nat} {Post : AV → Ob → Nat → Prop} (hf : E.P.funcs[f]? = some fn)
    (hl : lookedAt E nz args.length fn = true) (hb : fn.body = some (fn.body.getD .skip))
    (h : WP E cr k nz (fn.body.getD .skip) (begin_ args) o nx (fun u a o' nx' => (u = .normal ∨ u = .ret) ∧ wO (resultsL E.P a ⟨o', nx'⟩ fn.results.toList) (fun vs => Post (tup1 vs) o' nx'))) : ∃ v H', OkR E.P f args ⟨o, nx⟩ v H' ∧ Post v H'.o H'.nx := by
  obtain ⟨v, H', h1, h2⟩ := runPR_of_WP hb h
  exact ⟨v, H', okR_run hX hR.1 hR.2 hm hf hl h1, h2⟩
end Go.Proofs.YtmcbfbpdfbcakaaDoor.A
/- A, part 32: loops, round by round. -/
namespace Go.Proofs.YtmcbfbpdfbcakaaDoor.A
open Go
section
variable (E : Env) (cr : CallR) (k : Nat) (nz : Nat → Option (List (Nat × Nat)))
/-- A loop of n rounds at most. -/
def WPL (n : Nat) (c : Code) (a : AAct) (o : Ob) (nx : Nat) (Q : WPost) : Prop :=
  match iter (evalP E (fun _ _ => none) cr k nz none c) n a ⟨o, nx⟩ with
  | some (u, a', H') => Q u a' H'.o H'.nx
  | none => False
def loopQ (n : Nat) (c : Code) (Q : WPost) : WPost := fun u a o nx => match u with
  | .normal => WPL E cr k nz n c a o nx Q
  | u => Q u a o nx
end
section
variable {E : Env} {cr : CallR} {k : Nat} {nz : Nat → Option (List (Nat × Nat))}
theorem loopQ_normal (n c) (Q : WPost) (a o nx) : loopQ E cr k nz n c Q .normal a o nx = WPL E cr k nz n c a o nx Q := rfl
theorem loopQ_ret (n c) (Q : WPost) (a o nx) : loopQ E cr k nz n c Q .ret a o nx = Q .ret a o nx := rfl
theorem loopQ_exit (n c) (Q : WPost) (i a o nx) : loopQ E cr k nz n c Q (.exit i) a o nx = Q (.exit i) a o nx := rfl
theorem loopQ_goto (n c) (Q : WPost) (i a o nx) : loopQ E cr k nz n c Q (.goto i) a o nx = Q (.goto i) a o nx := rfl
theorem WPL_succ (n : Nat) (c : Code) (a o nx) (Q : WPost) : WPL E cr k nz (n + 1) c a o nx Q = WP E cr k nz c a o nx (loopQ E cr k nz n c Q) := by
  unfold WPL WP
  simp only [iter]
  cases evalP E (fun _ _ => none) cr k nz none c a ⟨o, nx⟩ with
  | none => rfl
  | some p =>
    obtain ⟨u, a', H'⟩ := p
    cases u <;> rfl
theorem WP_loop_eq (c : Code) (a o nx) (Q : WPost) : WP E cr k nz (.loop c) a o nx Q = WPL E cr k nz k c a o nx Q := by
  unfold WPL WP
  simp only [evalP]
  all_goals rfl
end
end Go.Proofs.YtmcbfbpdfbcakaaDoor.A
/- A, part 33: a law's row that lists variables, from its contract. -/
namespace Go.Proofs.YtmcbfbpdfbcakaaDoor.A
open Go Go.ChangeShapes
theorem laidMetH_plain {P : Program} {L : List (String × DataW Unit)} (h : (L.filter fun x => x.2.handleName?.isSome) = []) (w : World) : laidMetH P L w = laidMet P L w := by
  unfold laidMetH
  rw [h]
theorem laidVars_at {P : Program} {w : World} {n : String} {d : DataW Unit} : ∀ {L : List (String × DataW Unit)} {ps : List MemPlace}, DataW.LaidVars P w L ps → (n, d) ∈ L →
    ∃ g t cs fuel p, P.globalNamed n = some g ∧ (P.globals[g]?).map (·.type) = some t ∧ w.var? P n = some cs ∧ DataW.trod (fun _ => ()) P w 0 (fun _ => true) false fuel t cs.toList = some (d, p)
  | [], _, _, h => by cases h
  | (m, e) :: L, ps, hv, h => by
    obtain ⟨g, t, cs, fuel, p, q, h1, h2, h3, h4, h5, _⟩ := hv
    rcases List.mem_cons.1 h with e1 | h
    · injection e1 with e1 e2
      subst e1 e2
      exact ⟨g, t, cs, fuel, p, h1, h2, h3, h4⟩
    · exact laidVars_at h5 h
theorem var_heap {P : Program} {w : World} {n : String} {g : Nat} {cs : Array Value} (hg : P.globalNamed n = some g) (h : w.var? P n = some cs) : ∃ t m, w.heap[g]? = some (.cells cs t m) := by
  unfold World.var? at h
  rw [hg] at h
  simp only [Option.bind_some] at h
  split at h
  · rename_i e
    injection h with h
    subst h
    exact ⟨_, _, e⟩
  · cases h
theorem law_laid {H : Type} {enc : TypeId × Value → H} {as_ : Assume} {C : Checked} {os : Os} {f : FuncId} {fn : Func} {s : ChangeSpec} {conds : List PathCond} {apart fresh handsOn again : Bool} {L : List (String × DataW Unit)} (hnoh : (L.filter fun x => x.2.handleName?.isSome) = [])
    (own : ownKnob C.prog.godebug = none) (started : os.Started) (noInit : C.prog.inits.idxOf? f = none) (hfn : C.prog.funcs[f]? = some fn)
    (witness : ∃ (w : World) (tape : Tape) (i : Input), w.os = os ∧ (w.forCall tape i).Shaped C.prog ∧ i.vars = [] ∧ Input.okWide C.prog (w.forCall tape i) .any w.heap.size f i ∧
      ((s.pre enc C.prog fn conds apart (w.forCall tape i).memory i.args ∧ laidMetH C.prog L (w.forCall tape i).memory) ∧ sizedMet enc C.prog fn (OpenSpec.ofChange s) apart (w.forCall tape i).memory i.args) ∧ as_.holds C.prog (lone (Frame.enter C.prog f i.args .normal) [] (w.forCall tape i)))
    (hl : laidOutB C.prog = true) {ks : List TypeId} (hk : dataTypes C.prog ks = true) (hks : fn.params.toList.all (fun t => ks.contains t && C.prog.readableRec t && decide (t < C.prog.types.size)) = true)
    {tb : TypeId} (hr : fn.resultTypes = #[tb]) (htb : C.prog.underlying tb = some .bool) (hv : s.vars = [])
    (hspec : ∀ ds : List (DataW H), ds.length = fn.params.toList.length → (s.fn H ds).results = [.lit (.bool true)] ∧ (s.fn H ds).args = ds ∧ (s.fn H ds).vars = [])
    (hgl : ∀ W, laidMetH C.prog L W → Gl (Old W) W) (hok : ∀ xs, ArgsOf C.prog fn.params.toList xs → Ok C.prog f xs (.bool true)) :
    ReturnsInHanded as_ C os f .any (fun w args => (s.pre enc C.prog fn conds apart w args ∧ laidMetH C.prog L w) ∧ sizedMet enc C.prog fn (OpenSpec.ofChange s) apart w args) (s.post enc C.prog fn apart fresh handsOn again) := by
  have hks' : ∀ t ∈ fn.params.toList, t ∈ ks ∧ C.prog.readableRec t = true ∧ t < C.prog.types.size := fun t ht => by
    have := List.all_eq_true.1 hks t ht
    simp only [Bool.and_eq_true, decide_eq_true_eq, List.contains_iff_mem] at this
    exact ⟨this.1.1, this.1.2, this.2⟩
  refine returnsInHanded_of_change_and (X := fun w _ => laidMetH C.prog L w) (fun w w' _ hh h => by rw [laidMetH_plain hnoh] at h ⊢; exact laidMet.of_heap hh h) own started noInit hfn witness ?_
  intro W base args ds gs before hval hW _ _ hmet _
  have hWc := hW
  obtain ⟨p, q, hA, hV, rfl, hfz, hnd⟩ := hW
  have hlen := trods_length hA
  have hgs : gs = [] := by
    rw [hv] at hV
    exact (trodVars_none hV).1
  subst hgs
  obtain ⟨xs, hx1, hx2⟩ := args_shape hl hk (fun t ht => (hks' t ht).1) (fun j t v ht hv' => hval j t v (by simpa using ht) (by simpa using hv')) hA
  obtain ⟨_, hc⟩ := hok xs hx1
  have := hc (Old W) W args.toList hx2 (fun b hb => hb) (hgl W hmet)
  refine Calls.mono (by simpa using this) ?_
  rintro e W' ⟨v, S', rfl, hb, hpr, _, _⟩
  cases hpr
  refine ⟨_, rfl, law_post hl hWc hv hr htb ?_ (fun t ht => (hks' t ht).2) hb⟩
  rw [List.append_nil]
  exact hspec ds hlen
/-! ### a world whose listed variables are laid -/
def litV : Lit → Value
  | .int k n => .int k n
  | .bool b => .bool b
  | .string s => .string ⟨s.toArray⟩
  | _ => default
def laidCells : DataW Unit → Array Value
  | .agg l => (l.map fun x => match x with | .lit v => litV v | _ => default).toArray
  | .lit v => #[litV v]
  | _ => #[]
/-- Variable k holds these cells. -/
def layW (w : World) (k : Nat) (cells : Array Value) : World := { w with heap := w.heap.modify k fun
  | .cells _ t frozen => .cells cells t frozen
  | o => o }
end Go.Proofs.YtmcbfbpdfbcakaaDoor.A
/- A world whose listed variables are laid; what a tied card asks. -/
namespace Go.Proofs.YtmcbfbpdfbcakaaDoor
open Go Go.Proofs.YtmcbfbpdfbcakaaDoor.A
set_option maxRecDepth 100000
abbrev laidL : List (String × DataW Unit) := [("math/bits.deBruijn32tab", Rows.laid_math_bits_deBruijn32tab), ("math/bits.deBruijn64tab", Rows.laid_math_bits_deBruijn64tab), ("internal/strconv.uint64pow10", Rows.laid_internal_strconv_uint64pow10)]
theorem laidL_noh : (laidL.filter fun x => x.2.handleName?.isSome) = [] := by kernel_rfl
noncomputable def laidWorld (os : Os) : World :=
  layW (layW (layW (World.holding Tryd.prog os ⟨#[], #[], []⟩) ((Tryd.prog.globalNamed "internal/strconv.uint64pow10").getD 0) (laidCells Rows.laid_internal_strconv_uint64pow10)) ((Tryd.prog.globalNamed "math/bits.deBruijn32tab").getD 0) (laidCells Rows.laid_math_bits_deBruijn32tab)) ((Tryd.prog.globalNamed "math/bits.deBruijn64tab").getD 0) (laidCells Rows.laid_math_bits_deBruijn64tab)
theorem laidWorld_met (os : Os) (args : Array Value) : laidMetH Tryd.prog laidL ((laidWorld os).forCall (fun _ _ => 0) ⟨#[], args, []⟩).memory := by
  rw [laidMetH_plain laidL_noh]
  exact laidMet_of_run' 80 (by kernel_rfl) (by kernel_rfl)
theorem laid_gl (W : World) (h : laidMetH Tryd.prog laidL W) : Gl (Old W) W := by
  rw [laidMetH_plain laidL_noh] at h
  obtain ⟨ps, hv, _⟩ := h
  obtain ⟨g, t, cs, fuel, p, h1, h2, h3, h4⟩ := laidVars_at (n := "internal/strconv.uint64pow10") (d := Lib.tabData .u64 Lib.pow10Tab) hv (List.mem_cons_of_mem _ (List.mem_cons_of_mem _ (by rw [show (Lib.tabData .u64 Lib.pow10Tab : DataW Unit) = Rows.laid_internal_strconv_uint64pow10 by kernel_rfl]; exact List.mem_cons_self ..)))
  obtain ⟨ty, m, hh⟩ := var_heap h1 h3
  obtain rfl : 1 = g := Option.some.inj ((show Tryd.prog.globalNamed "internal/strconv.uint64pow10" = some 1 by kernel_rfl).symm.trans h1)
  obtain rfl : 113 = t := Option.some.inj ((show (Tryd.prog.globals[1]?).map (·.type) = some 113 by kernel_rfl).symm.trans h2)
  have hc := Lib.cells_of_tab (e := 107) (n := 20) (by kernel_rfl) (by kernel_rfl) (by kernel_rfl) (by kernel_rfl) h4
  intro x hx
  obtain rfl : x = (1, Lib.pow10Tab.map fun z => Value.int .u64 z) := List.mem_singleton.1 hx
  refine ⟨(Array.getElem?_eq_some_iff.1 hh).1, ty, m, ?_⟩
  rw [hh, ← hc]
theorem wants_all {P : Program} {l : Array TypeId} (h : (l.toList.all fun t => !P.wantsStandIn t) = true) {j : Nat} {t : TypeId} (ht : l[j]? = some t) : P.wantsStandIn t = false := by
  have := List.all_eq_true.1 h t (by
    rw [← Array.getElem?_toList] at ht
    exact List.mem_of_getElem? ht)
  simpa using this
end Go.Proofs.YtmcbfbpdfbcakaaDoor
/- stringslite.IndexByte: where a byte is first met. -/
namespace Go.Proofs.YtmcbfbpdfbcakaaDoor.A
open Go
noncomputable def ren4 : Shelf.Ren := ⟨fun x => if x = 217 then 56 else if x = 266 then 62 else 0, fun x => x, fun x => x⟩
theorem lays4 : Lays.n217 Tryd.prog ren4 where
  mixed := mixed
  f217 := by kernel_rfl
  f266 := by kernel_rfl
  t3 := by kernel_rfl
  a3 := run_isAgg_plain (show Tryd.prog.underlying 3 = some (.int .i64) by kernel_rfl) rfl
  z3 := fun w => by kernel_rfl
  v3 := fun w => by kernel_rfl
  t5 := by kernel_rfl
  a5 := run_isAgg_plain (show Tryd.prog.underlying 5 = some (.int .u8) by kernel_rfl) rfl
  z5 := fun w => by kernel_rfl
  v5 := fun w => by kernel_rfl
  t9 := by kernel_rfl
  a9 := run_isAgg_plain (show Tryd.prog.underlying 9 = some .string by kernel_rfl) rfl
  z9 := fun w => by kernel_rfl
  v9 := fun w => by kernel_rfl
def RIx (args : List AV) (r : AV) : Prop := ∃ (s : List UInt8) (c : Int), args = [.str s, .int .u8 c] ∧ r = .int .i64 (Lib.indexByte s c.toNat.toUInt8)
theorem RIx_ok (args r) (h : RIx args r) : Ok Tryd.prog 56 args r := by
  obtain ⟨s, c, rfl, rfl⟩ := h
  refine ⟨⟨Tryd.f56, Tryd.func56, by kernel_rfl, by kernel_rfl⟩, fun S w cargs ha hS _ => ?_⟩
  obtain ⟨hl, hr⟩ := ha
  match cargs, hl with
  | [u, v], _ =>
    have h0 := hr 0 _ _ rfl rfl
    have h1 := hr 1 _ _ rfl rfl
    cases h0
    cases h1
    refine (Any.stringslite_IndexByte lays4 ⟨s.toArray⟩ c w).mono ?_
    rintro e w' ⟨rfl, rfl⟩
    exact ⟨_, S, rfl, RowKit.Below.refl _ _, .int _ _, fun _ h => h, fun b hb => ⟨.inl hb, hS b hb⟩⟩
end Go.Proofs.YtmcbfbpdfbcakaaDoor.A
/- strings.Join: what it tells. -/
namespace Go.Proofs.YtmcbfbpdfbcakaaDoor.A
open Go
noncomputable def renJn : Shelf.Ren := ⟨fun x => if x = 156 then 54 else if x = 165 then 58 else if x = 166 then 59 else if x = 169 then 60 else if x = 240 then 65 else if x = 241 then 66 else if x = 276 then 71 else if x = 277 then 72 else x, fun x => if x = 31 then 33 else if x = 9 then 9 else if x = 3 then 3 else if x = 4 then 4 else if x = 0 then 0 else if x = 20 then 20 else if x = 72 then 91 else if x = 76 then 95 else if x = 70 then 89 else if x = 37 then 31 else if x = 75 then 94 else if x = 127 then 99 else if x = 164 then 103 else if x = 5 then 5 else if x = 80 then 97 else x, fun x => x⟩
theorem laysJn : Lays.n156 Tryd.prog renJn where
  mixed := mixed
  f156 := Tryd.func54.trans (congrArg some (by kernel_rfl))
  f165 := Tryd.func58.trans (congrArg some (by kernel_rfl))
  f166 := Tryd.func59.trans (congrArg some (by kernel_rfl))
  f169 := Tryd.func60.trans (congrArg some (by kernel_rfl))
  f240 := Tryd.func65.trans (congrArg some (by kernel_rfl))
  f241 := Tryd.func66.trans (congrArg some (by kernel_rfl))
  f276 := Tryd.func71.trans (congrArg some (by kernel_rfl))
  f277 := Tryd.func72.trans (congrArg some (by kernel_rfl))
  t0 := Tryd.underlying0
  a0 := Tryd.isAgg0
  z0 := Tryd.sizeOf0
  v0 := Tryd.zeroValue0
  t3 := Tryd.underlying3
  a3 := Tryd.isAgg3
  z3 := Tryd.sizeOf3
  v3 := Tryd.zeroValue3
  t4 := Tryd.underlying4
  a4 := Tryd.isAgg4
  z4 := Tryd.sizeOf4
  v4 := Tryd.zeroValue4
  t9 := Tryd.underlying9
  a9 := Tryd.isAgg9
  z9 := Tryd.sizeOf9
  v9 := Tryd.zeroValue9
  t20 := Tryd.underlying20
  a20 := Tryd.isAgg20
  z20 := Tryd.sizeOf20
  v20 := Tryd.zeroValue20
  t31 := Tryd.underlying33
  a31 := Tryd.isAgg33
  z31 := Tryd.sizeOf33
  v31 := Tryd.zeroValue33
  t37 := Tryd.underlying31
  a37 := Tryd.isAgg31
  z37 := Tryd.sizeOf31
  v37 := Tryd.zeroValue31
  t70 := Tryd.underlying89
  a70 := Tryd.isAgg89
  z70 := Tryd.sizeOf89
  v70 := Tryd.zeroValue89
  t72 := Tryd.underlying91
  a72 := Tryd.isAgg91
  z72 := Tryd.sizeOf91
  v72 := Tryd.zeroValue91
  t75 := Tryd.underlying94
  a75 := Tryd.isAgg94
  z75 := Tryd.sizeOf94
  v75 := Tryd.zeroValue94
  t76 := Tryd.underlying95
  a76 := Tryd.isAgg95
  z76 := Tryd.sizeOf95
  v76 := Tryd.zeroValue95
  t127 := Tryd.underlying99
  a127 := Tryd.isAgg99
  z127 := Tryd.sizeOf99
  v127 := Tryd.zeroValue99
  t164 := Tryd.underlying103
  a164 := Tryd.isAgg103
  z164 := Tryd.sizeOf103
  v164 := Tryd.zeroValue103
theorem extraJn : Builder.Extra Tryd.prog renJn where
  sizeBuilder := by kernel_rfl
  liesBuilder := by kernel_rfl
  t5 := Tryd.underlying5
  a5 := Tryd.isAgg5
  z5 := Tryd.sizeOf5
  v5 := Tryd.zeroValue5
  infoByte := by kernel_rfl
  cellsByte := by kernel_rfl
  sizeByte := by kernel_rfl
  neB5 := show ¬ (91 : Nat) = 5 by decide
def RJn (args : List AV) (r : AV) : Prop := ∃ (xs : List (List UInt8)) (sep : List UInt8), xs ≠ [] ∧ xs.length ≤ 1000000 ∧ (Lib.join xs sep).length ≤ 100000000 ∧ args = [.sl xs.length (xs.map .str), .str sep] ∧ r = .str (Lib.join xs sep)
theorem RJn_fn : Fun1 RJn := by
  rintro args r r' ⟨xs, sep, _, _, _, rfl, rfl⟩ ⟨xs', sep', _, _, _, h, rfl⟩
  simp only [List.cons.injEq, AV.sl.injEq, AV.str.injEq, and_true] at h
  obtain ⟨⟨_, h1⟩, h2⟩ := h
  have : xs = xs' := List.map_inj_right (fun a b h => by injection h) |>.1 h1
  rw [this, h2]
theorem RJn_ok (args r) (h : RJn args r) : Ok Tryd.prog 54 args r := by
  obtain ⟨xs, sep, hne, hn, hj, rfl, rfl⟩ := h
  refine ⟨⟨Tryd.f54, Tryd.func54, by kernel_rfl, by kernel_rfl⟩, fun S w cargs ha hS _ => ?_⟩
  obtain ⟨hl, hr⟩ := ha
  match cargs, hl with
  | [u, v], _ =>
    have h0 := hr 0 _ _ rfl rfl
    have h1 := hr 1 _ _ rfl rfl
    cases h1
    cases h0 with
    | sl n cs A cap uu hcap hA hb hc h1 h =>
      have hne' : xs.map AV.str ≠ [] := by simpa using hne
      obtain ⟨a, rfl, hSa⟩ := hb hne'
      have hxs : (xs.map fun l => (⟨l.toArray⟩ : ByteArray)).map (·.data.toList) = xs := by simp [Function.comp_def]
      have hcell : ∀ (j : Nat) (l : List UInt8), xs[j]? = some l → w.cell? (a.add j) = some (.string ⟨l.toArray⟩) := fun j l hj => by
        have hg : (xs.map AV.str)[j]? = some (.str l) := by simp [hj]
        rw [hc a j _ rfl hg]
        have := h j _ hg
        generalize uu j = q at this
        cases this
        rfl
      obtain ⟨x0, hx0⟩ : ∃ x0, xs[0]? = some x0 := by
        cases xs with
        | nil => exact absurd rfl hne
        | cons x l => exact ⟨x, rfl⟩
      have hspot : a = ⟨a.block, a.off, none⟩ := by
        have h00 := hcell 0 x0 hx0
        obtain ⟨b, off, spot⟩ := a
        cases spot with
        | none => rfl
        | some s =>
          unfold World.cell? Addr.add at h00
          simp at h00
          split at h00 <;> simp at h00
      have hadd : ∀ j, a.add j = ⟨a.block, a.off + j, none⟩ := fun j => by
        rw [hspot]
        unfold Addr.add
        by_cases h : j = 0 <;> simp [h]
      have := Any.strings_Join laysJn extraJn a.block a.off cap (xs.map fun l => (⟨l.toArray⟩ : ByteArray)) ⟨sep.toArray⟩ w (fun j x hx => by
        obtain ⟨l, hl, rfl⟩ : ∃ l, xs[j]? = some l ∧ (⟨l.toArray⟩ : ByteArray) = x := by simpa using hx
        rw [← hadd j]
        exact hcell j l hl) (hS _ hSa) (by simp; omega) (by simpa using hcap) (by rw [hxs]; simpa using (show (Lib.join xs sep).length ≤ 140737488355328 by omega))
      rw [hxs, hspot.symm, List.length_map] at this
      refine this.mono ?_
      rintro e w' ⟨rfl, hbl⟩
      refine ⟨_, S, rfl, hbl, ?_, fun _ h => h, fun b hb => ⟨.inl hb, ?_⟩⟩
      · exact .str _
      · have h5 := hS b hb
        have h6 := hbl.size
        omega
def strsOf : List AV → Option (List (List UInt8))
  | [] => some []
  | .str s :: l => (strsOf l).map (s :: ·)
  | _ => none
theorem strsOf_eq : ∀ {cs : List AV} {xs : List (List UInt8)}, strsOf cs = some xs → cs = xs.map .str
  | [], xs, h => by injection h with h; subst h; rfl
  | .str s :: l, xs, h => by
    simp only [strsOf, Option.map_eq_some_iff] at h
    obtain ⟨ys, h1, rfl⟩ := h
    rw [strsOf_eq h1]
    rfl
  | .und :: _, _, h | .bool _ :: _, _, h | .int _ _ :: _, _, h | .agg _ :: _, _, h | .tup _ :: _, _, h | .nil :: _, _, h | .sl _ _ :: _, _, h | .fptr _ :: _, _, h | .ref _ _ _ _ :: _, _, h | .ptr _ _ _ :: _, _, h | .fn _ _ _ :: _, _, h | .mp _ :: _, _, h | .nilmp :: _, _, h | .nilp :: _, _, h => by cases h
def joinX (args : List AV) : Option AV := match args with
  | [.sl n cs, .str sep] => match strsOf cs with
    | some xs => if n = xs.length ∧ xs ≠ [] ∧ xs.length ≤ 1000000 ∧ (Lib.join xs sep).length ≤ 100000000 then some (.str (Lib.join xs sep)) else none
    | none => none
  | _ => none
theorem joinX_ok (args r) (h : joinX args = some r) : Ok Tryd.prog 54 args r := by
  unfold joinX at h
  split at h
  · rename_i n cs sep
    split at h
    · rename_i xs hx
      split at h
      · rename_i hc
        obtain ⟨rfl, h1, h2, h3⟩ := hc
        injection h with h
        exact RJn_ok _ _ ⟨xs, sep, h1, h2, h3, by rw [strsOf_eq hx], h.symm⟩
      · cases h
    · cases h
  · cases h
end Go.Proofs.YtmcbfbpdfbcakaaDoor.A
/- law4's 'known' answers true: one run by the kernel. -/
namespace Go.Proofs.YtmcbfbpdfbcakaaDoor.A
open Go
def mode4 (f : FuncId) : Mode := if f = 56 then .ext true else if f = 54 then .ext true else if f ∈ [55, 61, 67, 73, 26, 37, 48, 49, 38, 47, 23, 25, 45, 53, 44] then .pure true else if f ∈ [35, 18, 41] then .pure false else .raw false
def ext4 : FuncId → List AV → Option AV := fun f args => if f = 56 then (match args with | [.str s, .int .u8 c] => some (.int .i64 (Lib.indexByte s c.toNat.toUInt8)) | _ => none) else if f = 54 then joinX args else none
noncomputable def E4 : Env := { P := Tryd.prog, mode := mode4, ext := ext4 }
theorem ext4_ok : CPSound Tryd.prog ext4 := by
  intro g args r h
  unfold ext4 at h
  split at h
  · rename_i e
    subst e
    split at h
    · rename_i s c
      injection h with h
      subst h
      exact RIx_ok _ _ ⟨s, c, rfl, rfl⟩
    · cases h
  · split at h
    · rename_i e
      subst e
      exact joinX_ok _ _ h
    · cases h
theorem known4_run : (calls E4 60).1 13 [] = some (.bool true) := by kernel_rfl
theorem known4_ok : Ok Tryd.prog 13 [] (.bool true) := ok_calls (E := E4) ext4_ok mixed known4_run
end Go.Proofs.YtmcbfbpdfbcakaaDoor.A
/- The table of contracts for the closed laws of expressions. -/
namespace Go.Proofs.YtmcbfbpdfbcakaaDoor.A
open Go
def RKn4 (args : List AV) (r : AV) : Prop := args = [] ∧ r = .bool true
theorem RKn4_fn : Fun1 RKn4 := by rintro args r r' ⟨_, rfl⟩ ⟨_, rfl⟩; rfl
theorem RKn4_ok (args r) (h : RKn4 args r) : Ok Tryd.prog 13 args r := by obtain ⟨rfl, rfl⟩ := h; exact known4_ok
noncomputable def XL4 : FuncId → List AV → Option AV := tabLook [(13, tRel RKn4), (18, (calls E4 1000).1 18), (17, tRel RW)]
theorem XL4_ok : CPSound Tryd.prog XL4 := tab_cons (tab_cons (tab_cons (tab_nil _) (tRel_ok within2_ok)) (fun args r h => ok_calls (E := E4) ext4_ok mixed h)) (tRel_ok RKn4_ok)
theorem XL4_known : XL4 13 [] = some (.bool true) := tRel_eq (R := RKn4) RKn4_fn ⟨rfl, rfl⟩
theorem XL4_within (a n : Int) (h1 : 0 < n) (h2 : n ≤ 1000000) : XL4 17 [.int .i64 a, .int .i64 n] = some (.int .i64 (a % n)) := rw_eq h1 h2
theorem perr_try : XL4 18 [.str [119, 41]] = some (.tup [.agg [.int .i64 0, .int .i64 0, .int .i64 0, .int .i64 0, .sl 0 []], .int .i64 1, .int .i64 3]) := by kernel_rfl
end Go.Proofs.YtmcbfbpdfbcakaaDoor.A
/- Expressions read, found right, written: runs of the kernel; the table of contracts with these. -/
namespace Go.Proofs.YtmcbfbpdfbcakaaDoor.A
open Go
set_option maxRecDepth 20000
noncomputable def XL5 : FuncId → List AV → Option AV := tabLook [(13, tRel RKn4), (18, (calls E4 1000).1 18), (23, (calls E4 1000).1 23), (25, (calls E4 1000).1 25), (26, (calls E4 1000).1 26), (17, tRel RW)]
theorem XL5_ok : CPSound Tryd.prog XL5 := tab_cons (tab_cons (tab_cons (tab_cons (tab_cons (tab_cons (tab_nil _) (tRel_ok within2_ok)) (fun args r h => ok_calls (E := E4) ext4_ok mixed h)) (fun args r h => ok_calls (E := E4) ext4_ok mixed h)) (fun args r h => ok_calls (E := E4) ext4_ok mixed h)) (fun args r h => ok_calls (E := E4) ext4_ok mixed h)) (tRel_ok RKn4_ok)
theorem XL5_known : XL5 13 [] = some (.bool true) := tRel_eq (R := RKn4) RKn4_fn ⟨rfl, rfl⟩
theorem XL5_within (a n : Int) (h1 : 0 < n) (h2 : n ≤ 1000000) : XL5 17 [.int .i64 a, .int .i64 n] = some (.int .i64 (a % n)) := rw_eq h1 h2
end Go.Proofs.YtmcbfbpdfbcakaaDoor.A
/- A, part 34: jumps to labels. -/
namespace Go.Proofs.YtmcbfbpdfbcakaaDoor.A
open Go
section
variable {E : Env} {cr : CallR} {k : Nat} {nz : Nat → Option (List (Nat × Nat))}
/-- A jump goes on where the label stands. -/
theorem evalP_at {cp : CallP} : ∀ {c rest : Code} {l : Nat} (a : AAct) (H : AH), findLabel c l = some rest → evalP E cp cr k nz (some l) c a H = evalP E cp cr k nz none rest a H
  | .seq x y, rest, l, a, H, h => by
    unfold findLabel at h
    cases hx : findLabel x l with
    | some r =>
      rw [hx] at h
      injection h with h
      subst h
      simp only [evalP, hx, Option.isSome_some, if_true]
      rw [evalP_at a H hx]
    | none =>
      rw [hx] at h
      simp only [evalP, hx, Option.isSome_none, Bool.false_eq_true, if_false]
      exact evalP_at a H h
  | .label l', rest, l, a, H, h => by
    unfold findLabel at h
    split at h
    · rename_i e
      injection h with h
      subst h
      simp only [evalP, eq_of_beq e, if_true]
    · cases h
  | .skip, _, _, _, _, h | .region _ _ _, _, _, _, _, h | .cond _ _ _, _, _, _, _, h | .block _ _, _, _, _, _, h | .loop _, _, _, _, _, h | .exit _, _, _, _, _, h | .goto _, _, _, _, _, h | .ret, _, _, _, _, h | .scope _, _, _, _, _, h => by cases h
def scopeQ (c : Code) (I : Nat → Nat → AAct → Ob → Nat → Prop) (m : Nat) (Q : WPost) : WPost := fun u a o nx => match u with
  | .goto l => if (findLabel c l).isSome then ∃ m', m' < m ∧ I l m' a o nx else Q (.goto l) a o nx
  | u => Q u a o nx
theorem scopeQ_normal (c I m) (Q : WPost) (a o nx) : scopeQ c I m Q .normal a o nx = Q .normal a o nx := rfl
theorem scopeQ_ret (c I m) (Q : WPost) (a o nx) : scopeQ c I m Q .ret a o nx = Q .ret a o nx := rfl
theorem scopeQ_exit (c I m) (Q : WPost) (i a o nx) : scopeQ c I m Q (.exit i) a o nx = Q (.exit i) a o nx := rfl
theorem scopeQ_goto {c : Code} {l : Nat} {rest : Code} (h : findLabel c l = some rest) (I m) (Q : WPost) (a o nx) : scopeQ c I m Q (.goto l) a o nx = ∃ m', m' < m ∧ I l m' a o nx := by
  show (if (findLabel c l).isSome then _ else _) = _
  rw [h]
  rfl
theorem WP_scope_aux {c : Code} {Q : WPost} (I : Nat → Nat → AAct → Ob → Nat → Prop) (step : ∀ l m a o nx rest, findLabel c l = some rest → I l m a o nx → WP E cr k nz rest a o nx (scopeQ c I m Q)) :
    ∀ (n m l : Nat), m < n → ∀ a o nx rest, findLabel c l = some rest → I l m a o nx → match jumps (fun l => (findLabel c l).isSome) (fun l => evalP E (fun _ _ => none) cr k nz (some l) c) n (evalP E (fun _ _ => none) cr k nz (some l) c a ⟨o, nx⟩) with | some (u, a', H') => Q u a' H'.o H'.nx | none => False
  | 0, m, l, h, _, _, _, _, _, _ => by omega
  | n + 1, m, l, h, a, o, nx, rest, hf, hI => by
    have hs := step l m a o nx rest hf hI
    rw [evalP_at a ⟨o, nx⟩ hf]
    unfold WP at hs
    cases he : evalP E (fun _ _ => none) cr k nz none rest a ⟨o, nx⟩ with
    | none => rw [he] at hs; exact hs.elim
    | some p =>
      obtain ⟨u, a', H'⟩ := p
      rw [he] at hs
      cases u with
      | goto l' =>
        simp only [jumps]
        simp only [scopeQ] at hs
        cases hl : findLabel c l' with
        | none =>
          rw [hl] at hs
          exact hs
        | some r' =>
          rw [hl] at hs
          obtain ⟨m', h1, h2⟩ := hs
          exact WP_scope_aux I step n m' l' (by omega) a' H'.o H'.nx r' hl h2
      | normal => simp only [jumps]; exact hs
      | exit i => simp only [jumps]; exact hs
      | ret => simp only [jumps]; exact hs
/-- A scope: an invariant at each label, with what is left to do. -/
theorem WP_scope {c : Code} {Q : WPost} (I : Nat → Nat → AAct → Ob → Nat → Prop) (M : Nat) (hM : M < k) {a : AAct} {o : Ob} {nx : Nat} (h0 : WP E cr k nz c a o nx (scopeQ c I M Q))
    (step : ∀ l m a o nx rest, findLabel c l = some rest → I l m a o nx → WP E cr k nz rest a o nx (scopeQ c I m Q)) : WP E cr k nz (.scope c) a o nx Q := by
  unfold WP at h0 ⊢
  simp only [evalP]
  obtain ⟨k', rfl⟩ : ∃ k', k = k' + 1 := ⟨k - 1, by omega⟩
  cases he : evalP E (fun _ _ => none) cr (k' + 1) nz none c a ⟨o, nx⟩ with
  | none => rw [he] at h0; exact h0.elim
  | some p =>
    obtain ⟨u, a', H'⟩ := p
    rw [he] at h0
    cases u with
    | goto l' =>
      simp only [jumps]
      simp only [scopeQ] at h0
      cases hl : findLabel c l' with
      | none =>
        rw [hl] at h0
        exact h0
      | some r' =>
        rw [hl] at h0
        obtain ⟨m', h1, h2⟩ := h0
        exact WP_scope_aux I step k' m' l' (by omega) a' H'.o H'.nx r' hl h2
    | normal => simp only [jumps]; exact h0
    | exit i => simp only [jumps]; exact h0
    | ret => simp only [jumps]; exact h0
end
end Go.Proofs.YtmcbfbpdfbcakaaDoor.A
/- Expressions read: the reader's levels, the small methods on the reader. -/
namespace Go.Proofs.YtmcbfbpdfbcakaaDoor.A
open Go
set_option maxRecDepth 20000
theorem runP_call' {E : Env} {cr : CallR} {k : Nat} {nz : Nat → Option (List (Nat × Nat))} {fn : Func} {c : Code} {args : List AV} {o : Ob} {nx : Nat} {K : AV × AH → Prop} (hb : fn.body = some c)
    (h : WP E cr k nz c (begin_ args) o nx (fun u a o' nx' => (u = .normal ∨ u = .ret) ∧ wO (resultsL E.P a ⟨o', nx'⟩ fn.results.toList) (fun vs => K (tup1 vs, ⟨o', nx'⟩)))) : wO (Option.map (fun p => freezeR false p.1 p.2) (runP E cr k nz fn args ⟨o, nx⟩)) K := by
  obtain ⟨v, H', h1, h2⟩ := runPR_of_WP (Post := fun v o' nx' => K (v, ⟨o', nx'⟩)) hb h
  rw [h1]
  exact h2
abbrev parP : AV := .ptr (2, 23) (2, 23) 0
abbrev levP (g : Tag) (d : Nat) : AV := .ptr (2, 21) g (d * 2)
/-- The reader's row, the levels' row: d of them stand below the last one. -/
structure Stk (o : Ob) (nx : Nat) (s : List UInt8) (at_ : Int) (g : Tag) (d : Nat) (pre : List AV) (vU vJ : AV) (post : List AV) : Prop where
  lt : 3 ≤ nx
  cell : o (2, 5) = some (.row ⟨58, 1, (2, 5), false, true, [.ptr (2, 23) (2, 23) 0]⟩)
  par : o (2, 23) = some (.row ⟨63, 1, (2, 23), false, true, [.str s, .int .i64 at_, .ref (2, 21) g 0 (d + 1)]⟩)
  lev : o (2, 21) = some (.row ⟨60, 2, g, false, true, pre ++ vU :: vJ :: post⟩)
  len : pre.length = d * 2
  le : d ≤ 30
section
variable {pre post : List AV} {x y z : AV} {n : Nat}
theorem drop_p0 (h : pre.length = n) : (pre ++ x :: y :: post).drop n = x :: y :: post := by rw [← h]; exact List.drop_left' rfl
theorem drop_p1 (h : pre.length = n) : (pre ++ x :: y :: post).drop (n + 1) = y :: post := by
  rw [← List.drop_drop, drop_p0 h]; rfl
theorem splice_p0 (h : pre.length = n) : splice (pre ++ x :: y :: post) n [z] = pre ++ z :: y :: post := by
  unfold splice
  rw [← h, List.take_left' rfl, List.length_singleton, drop_p1 rfl]
  simp
theorem splice_p1 (h : pre.length = n) : splice (pre ++ x :: y :: post) (n + 1) [z] = pre ++ x :: z :: post := by
  unfold splice
  have e1 : (pre ++ x :: y :: post).take (n + 1) = pre ++ [x] := by
    rw [← h, List.take_append, List.take_of_length_le (by omega)]
    simp
  have e2 : (pre ++ x :: y :: post).drop (n + 1 + 1) = post := by
    rw [← List.drop_drop, drop_p1 h]; rfl
  rw [e1, List.length_singleton, e2]
  simp
end
theorem upd_off {o : Ob} {t t' : Tag} {x} (h : t ≠ t') : upd o t' x t = o t := if_neg h
/-- What stands in rows older than the third one's, but the reader's own: as it was; what stands from the bound on may change. -/
def KeepB (b : Nat) (o o' : Ob) : Prop := ∀ i k, 3 ≤ i → i < b → o' (i, k) = o (i, k)
theorem KeepB.refl (b o) : KeepB b o o := fun _ _ _ _ => rfl
theorem KeepB.trans {b o o' o''} (h1 : KeepB b o o') (h2 : KeepB b o' o'') : KeepB b o o'' := fun i k h h' => (h2 i k h h').trans (h1 i k h h')
theorem lookTop (X) : lookedAt (EX md0 X) (fun _ => none) 1 Tryd.f33 = true := by kernel_rfl
theorem readsTop (X) : readsF (EX md0 X) 33 = true := by kernel_rfl
noncomputable def cTop (args : List AV) (H : AH) : Option (AV × AH) := if args.length = 1 then runP (EX md0 (fun _ _ => none)) noR 0 (fun _ => none) Tryd.f33 args H else none
theorem cTop_ok (args H v H') (h : cTop args H = some (v, H')) : OkR Tryd.prog 33 args H v H' := by
  unfold cTop at h
  split at h
  · rename_i hn
    exact okR_run (E := EX md0 (fun _ _ => none)) (cp_none _) (noR_ok Tryd.prog).1 (noR_ok Tryd.prog).2 mixed Tryd.func33 (by rw [hn]; exact lookTop _) h
  · cases h
theorem cTop_keep (args H v H') (h : cTop args H = some (v, H')) (t : Tag) (_ : t.1 < H.nx) : H'.o t = H.o t := by
  unfold cTop at h
  split at h
  · rename_i hn
    rw [← runP_body (E := EX md0 (fun _ _ => none)) (f := 33) Tryd.func33 (by rw [hn]; exact lookTop _)] at h
    rw [body_reads (readsTop _) h]
  · cases h
theorem top_call {o : Ob} {nx : Nat} {s at_ g d pre vU vJ post} {K : AV × AH → Prop} (h : Stk o nx s at_ g d pre vU vJ post) (hK : K (levP g d, ⟨o, nx + 2⟩)) : wO (Option.map (fun p => freezeR false p.1 p.2) (cTop [parP] ⟨o, nx⟩)) K := by
  have h2 := h.par
  have h3 := h.lev
  have h4 := h.len
  have h5 := h.le
  have h6 : (pre ++ vU :: vJ :: post).length = d * 2 + (post.length + 2) := by rw [List.length_append, h4]; rfl
  refine runP_call' (fn := Tryd.f33) (c := Tryd.f33.body.getD .skip) rfl ?_
  simp only [Tryd.f33, Option.getD_some]
  simp (disch := omega) only [go_sem, ↓IntWalk.iteOmega, IntWalk.toNatUp, Nat.reduceEqDiff, Nat.reduceAdd, Nat.reduceMul, Nat.reduceSub, Nat.reduceLT, Nat.reduceLeDiff, Int.reduceToNat, Int.reduceLT, Int.reduceLE, Int.reduceEq, Int.reduceAdd, Int.reduceSub, Int.reduceMul, Int.toNat_natCast, reduceCtorEq, decide_true, decide_false, IntWalk.i64_in, IntWalk.u64_in, IntWalk.u8_in, h2, h3, h6]
  exact hK
/-! ### nodes that stand in rows -/
inductive NdAt (o : Ob) (b nx : Nat) : Nat → List AV → Nd → Prop
  | data (d : Nat) (n : Nd) : NdAt o b nx d (cNd n) n
  | leaf (d : Nat) (k s lo hi : Int) : NdAt o b nx d [.int .i64 k, .int .i64 s, .int .i64 lo, .int .i64 hi, .nil] (.mk k s lo hi [])
  | beh (d i : Nat) (g : Tag) (ro : Bool) (k lo hi : Int) (x : Nd) (cs : List AV) : b ≤ i → i < nx → o (i, 19) = some (.row ⟨29, 5, g, ro, true, cs⟩) → NdAt o b nx d cs x →
    NdAt o b nx (d + 1) [.int .i64 k, .int .i64 0, .int .i64 lo, .int .i64 hi, .ref (i, 19) g 0 1] (.mk k 0 lo hi [x])
theorem NdAt.keep {o o' : Ob} {b nx nx' d : Nat} {cs : List AV} {n : Nd} (h : NdAt o b nx d cs n) (hn : nx ≤ nx') (hk : ∀ i, b ≤ i → i < nx → o' (i, 19) = o (i, 19)) : NdAt o' b nx' d cs n := by
  induction h with
  | data d n => exact .data d n
  | leaf d k s lo hi => exact .leaf d k s lo hi
  | beh d i g ro k lo hi x cs h1 h2 h3 _ ih => exact .beh d i g ro k lo hi x cs h1 (by omega) (by rw [hk i h1 h2]; exact h3) ih
theorem NdAt.up {o : Ob} {b nx d d' : Nat} {cs : List AV} {n : Nd} (h : NdAt o b nx d cs n) (hd : d ≤ d') : NdAt o b nx d' cs n := by
  induction h generalizing d' with
  | data d n => exact .data d' n
  | leaf d k s lo hi => exact .leaf d' k s lo hi
  | beh d i g ro k lo hi x cs h1 h2 h3 _ ih =>
    obtain ⟨e, rfl⟩ : ∃ e, d' = e + 1 := ⟨d' - 1, by omega⟩
    exact .beh e i g ro k lo hi x cs h1 h2 h3 (ih (by omega))
theorem NdAt.length {o : Ob} {b nx d : Nat} {cs : List AV} {n : Nd} (h : NdAt o b nx d cs n) : cs.length = 5 := by
  cases h with
  | data => exact cNd_length n
  | leaf => rfl
  | beh => rfl
theorem NdAt.ok {o : Ob} {b nx d : Nat} {cs : List AV} {n : Nd} (h : NdAt o b nx d cs n) : cs.all cellOk = true := by
  cases h with
  | data => exact cNd_ok n
  | leaf => rfl
  | beh => rfl
inductive NdsAt (o : Ob) (b nx d : Nat) : List AV → List Nd → Prop
  | nil : NdsAt o b nx d [] []
  | cons (c cs : List AV) (n : Nd) (l : List Nd) : NdAt o b nx d c n → NdsAt o b nx d cs l → NdsAt o b nx d (c ++ cs) (n :: l)
theorem NdsAt.keep {o o' : Ob} {b nx nx' d : Nat} {cs : List AV} {l : List Nd} (h : NdsAt o b nx d cs l) (hn : nx ≤ nx') (hk : ∀ i, b ≤ i → i < nx → o' (i, 19) = o (i, 19)) : NdsAt o' b nx' d cs l := by
  induction h with
  | nil => exact .nil
  | cons c cs n l h1 _ ih => exact .cons c cs n l (h1.keep hn hk) ih
theorem NdsAt.up {o : Ob} {b nx d d' : Nat} {cs : List AV} {l : List Nd} (h : NdsAt o b nx d cs l) (hd : d ≤ d') : NdsAt o b nx d' cs l := by
  induction h with
  | nil => exact .nil
  | cons c cs n l h1 _ ih => exact .cons c cs n l (h1.up hd) ih
theorem NdsAt.length {o : Ob} {b nx d : Nat} {cs : List AV} {l : List Nd} (h : NdsAt o b nx d cs l) : cs.length = l.length * 5 := by
  induction h with
  | nil => rfl
  | cons c cs n l h1 _ ih => rw [List.length_append, h1.length, ih, List.length_cons]; omega
theorem NdsAt.snoc {o : Ob} {b nx d : Nat} {cs c : List AV} {l : List Nd} {n : Nd} (h : NdsAt o b nx d cs l) (h1 : NdAt o b nx d c n) : NdsAt o b nx d (cs ++ c) (l ++ [n]) := by
  induction h with
  | nil => have := NdsAt.cons c [] n [] h1 .nil; rwa [List.append_nil] at this
  | cons c' cs n' l h2 _ ih => rw [List.append_assoc]; exact .cons c' _ n' _ h2 ih
theorem NdsAt.last {o : Ob} {b nx d : Nat} : ∀ {l : List Nd} {cs : List AV} {n : Nd}, NdsAt o b nx d cs (l ++ [n]) → ∃ c0 c1, cs = c0 ++ c1 ∧ NdsAt o b nx d c0 l ∧ NdAt o b nx d c1 n
  | [], cs, n, h => by
    cases h with
    | cons c cs' _ _ h1 h2 => cases h2; exact ⟨[], c, by rw [List.append_nil]; rfl, .nil, h1⟩
  | m :: l, cs, n, h => by
    cases h with
    | cons c cs' _ _ h1 h2 =>
      obtain ⟨c0, c1, rfl, h3, h4⟩ := NdsAt.last h2
      exact ⟨c ++ c0, c1, by rw [List.append_assoc], .cons c c0 m l h1 h3, h4⟩
/-- A level: unions' parts, joins, of rows from b on. -/
structure Lv (b : Nat) (o : Ob) (nx D : Nat) (vU vJ : AV) (U J : List Nd) : Prop where
  u : (vU = .nil ∧ U = []) ∨ ∃ i g, b ≤ i ∧ i < nx ∧ vU = .ref (i, 14) g 0 U.length ∧ o (i, 14) = some (.row ⟨29, 5, g, false, true, cNds U⟩)
  j : (vJ = .nil ∧ J = []) ∨ ∃ i g cs, b ≤ i ∧ i < nx ∧ vJ = .ref (i, 11) g 0 J.length ∧ o (i, 11) = some (.row ⟨29, 5, g, false, true, cs⟩) ∧ NdsAt o b nx D cs J
theorem Lv.keep {b : Nat} {o o' : Ob} {nx nx' D : Nat} {vU vJ : AV} {U J : List Nd} (h : Lv b o nx D vU vJ U J) (hn : nx ≤ nx') (hk : ∀ i k, b ≤ i → i < nx → (k = 11 ∨ k = 14 ∨ k = 19) → o' (i, k) = o (i, k)) : Lv b o' nx' D vU vJ U J := by
  refine ⟨?_, ?_⟩
  · rcases h.u with h1 | ⟨i, g, h1, h2, h3, h4⟩
    · exact .inl h1
    · exact .inr ⟨i, g, h1, by omega, h3, by rw [hk i 14 h1 h2 (by simp)]; exact h4⟩
  · rcases h.j with h1 | ⟨i, g, cs, h1, h2, h3, h4, h5⟩
    · exact .inl h1
    · exact .inr ⟨i, g, cs, h1, by omega, h3, by rw [hk i 11 h1 h2 (by simp)]; exact h4, h5.keep hn (fun i' a b' => hk i' 19 a b' (by simp))⟩
theorem Lv.okU {b : Nat} {o : Ob} {nx D : Nat} {vU vJ : AV} {U J : List Nd} (h : Lv b o nx D vU vJ U J) : cellOk vU = true := by
  rcases h.u with ⟨rfl, _⟩ | ⟨i, g, _, _, rfl, _⟩ <;> rfl
theorem Lv.okJ {b : Nat} {o : Ob} {nx D : Nat} {vU vJ : AV} {U J : List Nd} (h : Lv b o nx D vU vJ U J) : cellOk vJ = true := by
  rcases h.j with ⟨rfl, _⟩ | ⟨i, g, cs, _, _, rfl, _⟩ <;> rfl
/-- What the level's own steps leave as it was. -/
def KeepL (b n : Nat) (o o' : Ob) : Prop := ∀ i k, i < n → (i, k) ≠ (2, 21) → (i, k) ≠ (2, 23) → (b ≤ i → k ≠ 11 ∧ k ≠ 14 ∧ k ≠ 19) → o' (i, k) = o (i, k)
/-! ### put -/
def nzPut : Nat → Option (List (Nat × Nat))
  | 1 => some [(3, 6), (4, 6), (5, 6), (9, 12)]
  | _ => none
theorem lookPut (X) : lookedAt (EX md0 X) nzPut 2 Tryd.f34 = true := by kernel_rfl
noncomputable def cPut (args : List AV) (H : AH) : Option (AV × AH) := if args.length = 2 then runP (EX md0 (fun _ _ => none)) noR 0 nzPut Tryd.f34 args H else none
theorem cPut_ok (args H v H') (h : cPut args H = some (v, H')) : OkR Tryd.prog 34 args H v H' := by
  unfold cPut at h
  split at h
  · rename_i hn
    exact okR_run (E := EX md0 (fun _ _ => none)) (cp_none _) (noR_ok Tryd.prog).1 (noR_ok Tryd.prog).2 mixed Tryd.func34 (by rw [hn]; exact lookPut _) h
  · cases h
@[go_sem] theorem opd_zero5 (a : AAct) : opd a (.const (Value.agg #[.int .i64 0, .int .i64 0, .int .i64 0, .int .i64 0, .slice none 0 0])) = some (.agg [.int .i64 0, .int .i64 0, .int .i64 0, .int .i64 0, .nil]) := rfl
abbrev nd0 : List AV := [.int .i64 0, .int .i64 0, .int .i64 0, .int .i64 0, .nil]
theorem put_call {o : Ob} {nx : Nat} {s at_ g d pre vU vJ post} {b D : Nat} {U J : List Nd} {cv : List AV} {n : Nd} (hcv : NdAt o b nx D cv n) {K : AV × AH → Prop} (h : Stk o nx s at_ g d pre vU vJ post) (hL : Lv b o nx D vU vJ U J) (hb : 3 ≤ b) (hbn : b ≤ nx) (hJ : J.length ≤ 1000)
    (hK : ∀ o' nx' vJ', nx ≤ nx' → Stk o' nx' s at_ g d pre vU vJ' post → Lv b o' nx' D vU vJ' U (J ++ [n]) → KeepL b nx o o' → K (.tup [], ⟨o', nx'⟩)) : wO (Option.map (fun p => freezeR false p.1 p.2) (cPut [levP g d, .agg cv] ⟨o, nx⟩)) K := by
  have h0 := h.lt
  have h1 := h.cell
  have h2 := h.par
  have h3 := h.lev
  have h4 := h.len
  have h5 := h.le
  have h6 : ∀ x y : AV, (pre ++ x :: y :: post).length = d * 2 + (post.length + 2) := fun x y => by rw [List.length_append, h4]; rfl
  have d0 : ∀ x y : AV, (pre ++ x :: y :: post).drop (d * 2) = x :: y :: post := fun x y => drop_p0 h4
  have d1 : ∀ x y : AV, (pre ++ x :: y :: post).drop (d * 2 + 1) = y :: post := fun x y => drop_p1 h4
  have s1 : ∀ x y z : AV, splice (pre ++ x :: y :: post) (d * 2 + 1) [z] = pre ++ x :: z :: post := fun x y z => splice_p1 h4
  have v1 := hcv.length
  have v2 := hcv.ok
  have v3 : cv.take 5 = cv := take_len v1
  refine runP_call' (fn := Tryd.f34) (c := Tryd.f34.body.getD .skip) rfl ?_
  simp only [Tryd.f34, Option.getD_some]
  rcases hL.j with ⟨rfl, rfl⟩ | ⟨i, gj, cs, i1, i2, rfl, i3, i4⟩
  · simp (disch := omega) only [go_sem, ↓IntWalk.iteOmega, IntWalk.toNatUp, Nat.reduceEqDiff, Nat.reduceAdd, Nat.reduceMul, Nat.reduceSub, Nat.reduceLT, Nat.reduceLeDiff, Int.reduceToNat, Int.reduceLT, Int.reduceLE, Int.reduceEq, Int.reduceAdd, Int.reduceSub, Int.reduceMul, Int.toNat_natCast, reduceCtorEq, decide_true, decide_false, IntWalk.i64_in, IntWalk.u64_in, IntWalk.u8_in, nzPut, h1, h2, h3, h6, d0, d1, s1, v1, v2, v3]
    refine hK _ _ _ (by omega) ⟨by omega, by simp (disch := omega) only [go_sem, ↓IntWalk.iteOmega, IntWalk.toNatUp, Nat.reduceEqDiff, Nat.reduceAdd, Nat.reduceMul, Nat.reduceSub, Nat.reduceLT, Nat.reduceLeDiff, Int.reduceToNat, Int.reduceLT, Int.reduceLE, Int.reduceEq, Int.reduceAdd, Int.reduceSub, Int.reduceMul, Int.toNat_natCast, reduceCtorEq, decide_true, decide_false, IntWalk.i64_in, IntWalk.u64_in, IntWalk.u8_in, h1], by simp (disch := omega) only [go_sem, ↓IntWalk.iteOmega, IntWalk.toNatUp, Nat.reduceEqDiff, Nat.reduceAdd, Nat.reduceMul, Nat.reduceSub, Nat.reduceLT, Nat.reduceLeDiff, Int.reduceToNat, Int.reduceLT, Int.reduceLE, Int.reduceEq, Int.reduceAdd, Int.reduceSub, Int.reduceMul, Int.toNat_natCast, reduceCtorEq, decide_true, decide_false, IntWalk.i64_in, IntWalk.u64_in, IntWalk.u8_in, h2], upd_same _ _ _, h4, h5⟩ ⟨?_, ?_⟩ ?_
    · rcases hL.u with h7 | ⟨i, gu, i1, i2, i3, i4⟩
      · exact .inl h7
      · exact .inr ⟨i, gu, i1, by omega, i3, by simp [upd_app, i4]⟩
    · exact .inr ⟨nx + 1, (nx + 1, 11), cv, by omega, by omega, rfl, by simp [upd_app], NdsAt.snoc .nil (hcv.keep (by omega) (fun i' _ _ => by simp [upd_app]))⟩
    · intro i k hi a1 a2 a3
      have e1 : ¬ i = nx := by omega
      have e2 : ¬ i = nx + 1 := by omega
      rw [upd_off a1]
      simp [upd_app, e1, e2]
  · have hlen := i4.length
    have htk : cs.take (J.length * 5) = cs := take_len hlen
    have hspl : splice (cs ++ nd0) (J.length * 5) cv = cs ++ cv := by
      unfold splice
      rw [← hlen, List.take_left' rfl, List.drop_of_length_le (by simp [v1])]
      simp
    simp (disch := omega) only [go_sem, ↓IntWalk.iteOmega, IntWalk.toNatUp, Nat.reduceEqDiff, Nat.reduceAdd, Nat.reduceMul, Nat.reduceSub, Nat.reduceLT, Nat.reduceLeDiff, Int.reduceToNat, Int.reduceLT, Int.reduceLE, Int.reduceEq, Int.reduceAdd, Int.reduceSub, Int.reduceMul, Int.toNat_natCast, reduceCtorEq, decide_true, decide_false, IntWalk.i64_in, IntWalk.u64_in, IntWalk.u8_in, nzPut, h1, h2, h3, h6, d0, d1, s1, i3, htk, hspl, v1, v2, v3]
    refine hK _ _ _ (by omega) ⟨by omega, by simp (disch := omega) only [go_sem, ↓IntWalk.iteOmega, IntWalk.toNatUp, Nat.reduceEqDiff, Nat.reduceAdd, Nat.reduceMul, Nat.reduceSub, Nat.reduceLT, Nat.reduceLeDiff, Int.reduceToNat, Int.reduceLT, Int.reduceLE, Int.reduceEq, Int.reduceAdd, Int.reduceSub, Int.reduceMul, Int.toNat_natCast, reduceCtorEq, decide_true, decide_false, IntWalk.i64_in, IntWalk.u64_in, IntWalk.u8_in, h1], by simp (disch := omega) only [go_sem, ↓IntWalk.iteOmega, IntWalk.toNatUp, Nat.reduceEqDiff, Nat.reduceAdd, Nat.reduceMul, Nat.reduceSub, Nat.reduceLT, Nat.reduceLeDiff, Int.reduceToNat, Int.reduceLT, Int.reduceLE, Int.reduceEq, Int.reduceAdd, Int.reduceSub, Int.reduceMul, Int.toNat_natCast, reduceCtorEq, decide_true, decide_false, IntWalk.i64_in, IntWalk.u64_in, IntWalk.u8_in, h2], upd_same _ _ _, h4, h5⟩ ⟨?_, ?_⟩ ?_
    · rcases hL.u with h7 | ⟨i', gu, j1, j2, j3, j4⟩
      · exact .inl h7
      · exact .inr ⟨i', gu, j1, by omega, j3, by simp [upd_app, j4]⟩
    · exact .inr ⟨i, (nx + 1, 11), cs ++ cv, by omega, by omega, by rw [List.length_append, List.length_singleton], by simp [upd_app], NdsAt.snoc (i4.keep (by omega) (fun i' _ _ => by simp [upd_app])) (hcv.keep (by omega) (fun i' _ _ => by simp [upd_app]))⟩
    · intro i' k hi a1 a2 a3
      have e1 : ¬ i' = nx := by omega
      have e2 : ¬ i' = nx + 1 := by omega
      have e4 : (i', k) ≠ (i, 11) := fun e => (a3 (by cases e; omega)).1 (by cases e; rfl)
      rw [upd_off a1, upd_off e4, upd_off e4]
      simp [upd_app, e1, e2]
/-! ### the closure that puts -/
noncomputable def crTP : CallR := tabLookR [(33, cTop), (34, cPut)]
theorem crTP_ok : CRSound Tryd.prog crTP ∧ Up crTP := tabR_cons (tabR_cons (tabR_nil _) cPut_ok) cTop_ok (fun _ => cTop_keep)
def nzClo : Nat → Option (List (Nat × Nat))
  | 1 => some [(1, 2)]
  | _ => none
theorem lookClo (X) : lookedAt (EX md0 X) nzClo 2 Tryd.f32 = true := by kernel_rfl
noncomputable def cClo (args : List AV) (H : AH) : Option (AV × AH) := if args.length = 2 then runP (EX md0 (fun _ _ => none)) crTP 0 nzClo Tryd.f32 args H else none
theorem cClo_ok (args H v H') (h : cClo args H = some (v, H')) : OkR Tryd.prog 32 args H v H' := by
  unfold cClo at h
  split at h
  · rename_i hn
    exact okR_run (E := EX md0 (fun _ _ => none)) (cp_none _) crTP_ok.1 crTP_ok.2 mixed Tryd.func32 (by rw [hn]; exact lookClo _) h
  · cases h
@[go_sem] theorem freezeR_false (v H) : freezeR false v H = (v, H) := rfl
theorem crTP_top : crTP 33 = cTop := rfl
theorem crTP_put : crTP 34 = cPut := rfl
theorem Stk.keep {o o' : Ob} {nx nx' s at_ g d pre vU vJ post} (h : Stk o nx s at_ g d pre vU vJ post) (hn : nx ≤ nx') (h1 : o' (2, 5) = o (2, 5)) (h2 : o' (2, 23) = o (2, 23)) (h3 : o' (2, 21) = o (2, 21)) : Stk o' nx' s at_ g d pre vU vJ post :=
  ⟨by have := h.lt; omega, h1.trans h.cell, h2.trans h.par, h3.trans h.lev, h.len, h.le⟩
theorem clo_call {o : Ob} {nx : Nat} {s at_ g d pre vU vJ post} {b D : Nat} {U J : List Nd} {cv : List AV} {n : Nd} (hcv : NdAt o b nx D cv n) {K : AV × AH → Prop} (h : Stk o nx s at_ g d pre vU vJ post) (hL : Lv b o nx D vU vJ U J) (hb : 3 ≤ b) (hbn : b ≤ nx) (hJ : J.length ≤ 1000)
    (hK : ∀ o' nx' vJ', nx ≤ nx' → Stk o' nx' s at_ g d pre vU vJ' post → Lv b o' nx' D vU vJ' U (J ++ [n]) → KeepL b nx o o' → K (.tup [], ⟨o', nx'⟩)) : wO (Option.map (fun p => freezeR false p.1 p.2) (cClo [.agg cv, .ptr (2, 5) (2, 5) 0] ⟨o, nx⟩)) K := by
  have h0 := h.lt
  have h1 := h.cell
  refine runP_call' (fn := Tryd.f32) (c := Tryd.f32.body.getD .skip) rfl ?_
  simp only [Tryd.f32, Option.getD_some]
  have hone : ∀ x, Stk (upd o (nx, 2) x) (nx + 1 + 1) s at_ g d pre vU vJ post := fun x => h.keep (by omega) (by simp [upd_app]) (by simp [upd_app]) (by simp [upd_app])
  have hlv : ∀ x, Lv b (upd o (nx, 2) x) (nx + 1 + 1) D vU vJ U J := fun x => hL.keep (by omega) (fun i k _ _ hk => by rcases hk with rfl | rfl | rfl <;> simp [upd_app])
  have v1 := hcv.length
  have v2 := hcv.ok
  have v3 : cv.take 5 = cv := take_len v1
  simp (disch := omega) only [go_sem, ↓IntWalk.iteOmega, IntWalk.toNatUp, Nat.reduceEqDiff, Nat.reduceAdd, Nat.reduceMul, Nat.reduceSub, Nat.reduceLT, Nat.reduceLeDiff, Int.reduceToNat, Int.reduceLT, Int.reduceLE, Int.reduceEq, Int.reduceAdd, Int.reduceSub, Int.reduceMul, Int.toNat_natCast, reduceCtorEq, decide_true, decide_false, IntWalk.i64_in, IntWalk.u64_in, IntWalk.u8_in, nzClo, h1, crTP_top, crTP_put, v1, v2, v3]
  refine top_call (hone _) ?_
  simp (disch := omega) only [go_sem, ↓IntWalk.iteOmega, IntWalk.toNatUp, Nat.reduceEqDiff, Nat.reduceAdd, Nat.reduceMul, Nat.reduceSub, Nat.reduceLT, Nat.reduceLeDiff, Int.reduceToNat, Int.reduceLT, Int.reduceLE, Int.reduceEq, Int.reduceAdd, Int.reduceSub, Int.reduceMul, Int.toNat_natCast, reduceCtorEq, decide_true, decide_false, IntWalk.i64_in, IntWalk.u64_in, IntWalk.u8_in, nzClo, h1, crTP_top, crTP_put, v1, v2, v3]
  refine put_call (hcv.keep (by omega) (fun i' _ _ => by simp [upd_app])) ((hone _).keep (by omega) rfl rfl rfl) ((hlv _).keep (by omega) (fun _ _ _ _ _ => rfl)) hb (by omega) hJ (fun o' nx' vJ' a1 a2 a3 a4 => ?_)
  simp (disch := omega) only [go_sem, ↓IntWalk.iteOmega, IntWalk.toNatUp, Nat.reduceEqDiff, Nat.reduceAdd, Nat.reduceMul, Nat.reduceSub, Nat.reduceLT, Nat.reduceLeDiff, Int.reduceToNat, Int.reduceLT, Int.reduceLE, Int.reduceEq, Int.reduceAdd, Int.reduceSub, Int.reduceMul, Int.toNat_natCast, reduceCtorEq, decide_true, decide_false, IntWalk.i64_in, IntWalk.u64_in, IntWalk.u8_in, nzClo, h1, crTP_top, crTP_put]
  refine hK _ _ _ (by omega) a2 a3 (fun i k hi b1 b2 b3 => ?_)
  rw [a4 i k (by omega) b1 b2 b3]
  have e1 : ¬ i = nx := by omega
  simp [upd_app, e1]
end Go.Proofs.YtmcbfbpdfbcakaaDoor.A
/- Expressions read: many, plain, after, digit, sign, times. -/
namespace Go.Proofs.YtmcbfbpdfbcakaaDoor.A
open Go
set_option maxRecDepth 20000
/-- Some parts as one. -/
def manyN (k : Int) : List Nd → Nd
  | [x] => x
  | l => .mk k 0 0 0 l
def RMany (args : List AV) (r : AV) : Prop := ∃ k l, l ≠ [] ∧ l.length ≤ 1000 ∧ args = [.int .i64 k, slN l] ∧ r = nodeV (manyN k l)
theorem lookMany (X) : lookedAt (EX md0 X) (fun _ => none) 2 Tryd.f41 = true := by kernel_rfl
theorem many_ok (args r) (h : RMany args r) : Ok Tryd.prog 41 args r := by
  obtain ⟨k, l, h0, h1, rfl, rfl⟩ := h
  refine ok_of_WP (E := EX md0 (fun _ _ => none)) (cp_none _) (noR_ok _) mixed (k := 0) Tryd.func41 (lookMany _) rfl ?_
  simp only [Tryd.f41, Option.getD_some]
  match l, h0, h1 with
  | [x], _, _ =>
    have e : cNds [x] = cNd x := cNds_one x
    obtain ⟨k', s', lo', hi', l'⟩ := x
    simp (disch := omega) only [go_sem, ↓IntWalk.iteOmega, IntWalk.toNatUp, Nat.reduceEqDiff, Nat.reduceAdd, Nat.reduceMul, Nat.reduceSub, Nat.reduceLT, Nat.reduceLeDiff, Int.reduceToNat, Int.reduceLT, Int.reduceLE, Int.reduceEq, Int.reduceAdd, Int.reduceSub, Int.reduceMul, Int.toNat_natCast, reduceCtorEq, decide_true, decide_false, IntWalk.i64_in, IntWalk.u64_in, IntWalk.u8_in, e, manyN]
    rw [nodeV, cNd_mk]
  | x :: y :: l, _, h1 =>
    have e : manyN k (x :: y :: l) = .mk k 0 0 0 (x :: y :: l) := rfl
    have e2 : ¬ (x :: y :: l).length = 1 := by simp
    have e3 : ¬ (x :: y :: l).length = 0 := by simp
    rw [e]
    generalize x :: y :: l = L at *
    have htk : (cNds L).take (L.length * 5) = cNds L := take_len (cNds_length L)
    simp (disch := omega) only [go_sem, ↓IntWalk.iteOmega, IntWalk.toNatUp, Nat.reduceEqDiff, Nat.reduceAdd, Nat.reduceMul, Nat.reduceSub, Nat.reduceLT, Nat.reduceLeDiff, Int.reduceToNat, Int.reduceLT, Int.reduceLE, Int.reduceEq, Int.reduceAdd, Int.reduceSub, Int.reduceMul, Int.toNat_natCast, reduceCtorEq, decide_true, decide_false, IntWalk.i64_in, IntWalk.u64_in, IntWalk.u8_in, e2, e3, htk]
    rw [nodeV, cNd_mk]
def plainN (c : Int) : Nd :=
  if c = 119 then .mk 1 1 0 0 [] else if c = 98 then .mk 1 2 0 0 [] else if c = 99 then .mk 1 4 0 0 [] else if c = 102 then .mk 1 8 0 0 [] else if c = 116 then .mk 1 16 0 0 [] else
  if c = 46 then .mk 1 31 0 0 [] else if c = 48 then .mk 2 0 0 0 [] else if c = 95 then .mk 3 0 0 0 [] else .mk 0 0 0 0 []
def signs5 : List UInt8 := [119, 98, 99, 102, 116]
def signN (c : Int) : Int := if c = 119 then 0 else if c = 98 then 1 else if c = 99 then 2 else if c = 102 then 3 else if c = 116 then 4 else -1
def RIxS (args : List AV) (r : AV) : Prop := ∃ c : UInt8, args = [.str signs5, .int .u8 c.toNat] ∧ r = .int .i64 (signN c.toNat)
theorem RIxS_ok0 (args r) (h : RIxS args r) : Ok Tryd.prog 56 args r := by
  obtain ⟨c, rfl, rfl⟩ := h
  refine RIx_ok _ _ ⟨signs5, c.toNat, rfl, ?_⟩
  have e : ((c.toNat : Int)).toNat.toUInt8 = c := by rw [Int.toNat_natCast]; exact UInt8.ofNat_toNat
  rw [e]
  have : ∀ n : Fin 256, Lib.indexByte signs5 (UInt8.ofNat n.1) = signN (n.1 : Int) := by decide +kernel
  have h2 := this ⟨c.toNat, c.toNat_lt⟩
  rw [UInt8.ofNat_toNat] at h2
  rw [h2]
theorem lookPlain (X) : lookedAt (EX md0 X) (fun _ => none) 1 Tryd.f35 = true := by kernel_rfl
theorem RIxS_fn : Fun1 RIxS := by
  rintro args r r' ⟨c, rfl, rfl⟩ ⟨c', h, rfl⟩
  simp only [List.cons.injEq, AV.int.injEq, and_true, true_and] at h
  rw [h]
theorem lookSIx (X) : lookedAt (EX md0 X) (fun _ => none) 2 Tryd.f47 = true := by kernel_rfl
theorem RIxS_ok (args r) (h : RIxS args r) : Ok Tryd.prog 47 args r := by
  have h0 := h
  obtain ⟨c, rfl, rfl⟩ := h
  have h1 : tabLook [(56, tRel RIxS)] 56 [.str signs5, .int .u8 c.toNat] = some (.int .i64 (signN c.toNat)) := tRel_eq RIxS_fn h0
  refine ok_of_WP (E := EX md0 (tabLook [(56, tRel RIxS)])) (tab_cons (tab_nil _) (tRel_ok RIxS_ok0)) (noR_ok _) mixed (k := 0) Tryd.func47 (lookSIx _) rfl ?_
  simp only [Tryd.f47, Option.getD_some]
  simp (disch := omega) only [go_sem, ↓IntWalk.iteOmega, IntWalk.toNatUp, Nat.reduceEqDiff, Nat.reduceAdd, Nat.reduceMul, Nat.reduceSub, Nat.reduceLT, Nat.reduceLeDiff, Int.reduceToNat, Int.reduceLT, Int.reduceLE, Int.reduceEq, Int.reduceAdd, Int.reduceSub, Int.reduceMul, Int.toNat_natCast, reduceCtorEq, decide_true, decide_false, IntWalk.i64_in, IntWalk.u64_in, IntWalk.u8_in, h1]
noncomputable def XIx : FuncId → List AV → Option AV := tabLook [(47, tRel RIxS)]
theorem XIx_ok : CPSound Tryd.prog XIx := tab_cons (tab_nil _) (tRel_ok RIxS_ok)
theorem XIx_ix (c : UInt8) : XIx 47 [.str signs5, .int .u8 c.toNat] = some (.int .i64 (signN c.toNat)) := tRel_eq RIxS_fn ⟨c, rfl, rfl⟩
def RPlain (args : List AV) (r : AV) : Prop := ∃ c : UInt8, args = [.int .u8 c.toNat] ∧ r = nodeV (plainN c.toNat)
theorem plain_ok (args r) (h : RPlain args r) : Ok Tryd.prog 35 args r := by
  obtain ⟨c, rfl, rfl⟩ := h
  refine ok_of_WP (E := EX md0 XIx) XIx_ok (noR_ok _) mixed (k := 0) Tryd.func35 (lookPlain _) rfl ?_
  have hx := XIx_ix c
  simp only [Tryd.f35, Option.getD_some]
  generalize (c.toNat : Int) = n at *
  unfold signN signs5 at hx
  unfold plainN
  by_cases c1 : n = 119
  · subst c1; simp (disch := omega) only [go_sem, ↓IntWalk.iteOmega, IntWalk.toNatUp, Nat.reduceEqDiff, Nat.reduceAdd, Nat.reduceMul, Nat.reduceSub, Nat.reduceLT, Nat.reduceLeDiff, Int.reduceToNat, Int.reduceLT, Int.reduceLE, Int.reduceEq, Int.reduceAdd, Int.reduceSub, Int.reduceMul, Int.toNat_natCast, reduceCtorEq, decide_true, decide_false, IntWalk.i64_in, IntWalk.u64_in, IntWalk.u8_in, hx]; (simp only [nodeV, cNd_mk, slN, cNds_nil, List.length_nil] <;> rfl)
  by_cases c2 : n = 98
  · subst c2; simp (disch := omega) only [go_sem, ↓IntWalk.iteOmega, IntWalk.toNatUp, Nat.reduceEqDiff, Nat.reduceAdd, Nat.reduceMul, Nat.reduceSub, Nat.reduceLT, Nat.reduceLeDiff, Int.reduceToNat, Int.reduceLT, Int.reduceLE, Int.reduceEq, Int.reduceAdd, Int.reduceSub, Int.reduceMul, Int.toNat_natCast, reduceCtorEq, decide_true, decide_false, IntWalk.i64_in, IntWalk.u64_in, IntWalk.u8_in, hx]; (simp only [nodeV, cNd_mk, slN, cNds_nil, List.length_nil] <;> rfl)
  by_cases c3 : n = 99
  · subst c3; simp (disch := omega) only [go_sem, ↓IntWalk.iteOmega, IntWalk.toNatUp, Nat.reduceEqDiff, Nat.reduceAdd, Nat.reduceMul, Nat.reduceSub, Nat.reduceLT, Nat.reduceLeDiff, Int.reduceToNat, Int.reduceLT, Int.reduceLE, Int.reduceEq, Int.reduceAdd, Int.reduceSub, Int.reduceMul, Int.toNat_natCast, reduceCtorEq, decide_true, decide_false, IntWalk.i64_in, IntWalk.u64_in, IntWalk.u8_in, hx]; (simp only [nodeV, cNd_mk, slN, cNds_nil, List.length_nil] <;> rfl)
  by_cases c4 : n = 102
  · subst c4; simp (disch := omega) only [go_sem, ↓IntWalk.iteOmega, IntWalk.toNatUp, Nat.reduceEqDiff, Nat.reduceAdd, Nat.reduceMul, Nat.reduceSub, Nat.reduceLT, Nat.reduceLeDiff, Int.reduceToNat, Int.reduceLT, Int.reduceLE, Int.reduceEq, Int.reduceAdd, Int.reduceSub, Int.reduceMul, Int.toNat_natCast, reduceCtorEq, decide_true, decide_false, IntWalk.i64_in, IntWalk.u64_in, IntWalk.u8_in, hx]; (simp only [nodeV, cNd_mk, slN, cNds_nil, List.length_nil] <;> rfl)
  by_cases c5 : n = 116
  · subst c5; simp (disch := omega) only [go_sem, ↓IntWalk.iteOmega, IntWalk.toNatUp, Nat.reduceEqDiff, Nat.reduceAdd, Nat.reduceMul, Nat.reduceSub, Nat.reduceLT, Nat.reduceLeDiff, Int.reduceToNat, Int.reduceLT, Int.reduceLE, Int.reduceEq, Int.reduceAdd, Int.reduceSub, Int.reduceMul, Int.toNat_natCast, reduceCtorEq, decide_true, decide_false, IntWalk.i64_in, IntWalk.u64_in, IntWalk.u8_in, hx]; (simp only [nodeV, cNd_mk, slN, cNds_nil, List.length_nil] <;> rfl)
  simp only [c1, c2, c3, c4, c5, if_false] at hx
  simp only [c1, c2, c3, c4, c5, if_false]
  by_cases c6 : n = 46
  · subst c6; simp (disch := omega) only [go_sem, ↓IntWalk.iteOmega, IntWalk.toNatUp, Nat.reduceEqDiff, Nat.reduceAdd, Nat.reduceMul, Nat.reduceSub, Nat.reduceLT, Nat.reduceLeDiff, Int.reduceToNat, Int.reduceLT, Int.reduceLE, Int.reduceEq, Int.reduceAdd, Int.reduceSub, Int.reduceMul, Int.toNat_natCast, reduceCtorEq, decide_true, decide_false, IntWalk.i64_in, IntWalk.u64_in, IntWalk.u8_in, hx]; (simp only [nodeV, cNd_mk, slN, cNds_nil, List.length_nil] <;> rfl)
  by_cases c7 : n = 48
  · subst c7; simp (disch := omega) only [go_sem, ↓IntWalk.iteOmega, IntWalk.toNatUp, Nat.reduceEqDiff, Nat.reduceAdd, Nat.reduceMul, Nat.reduceSub, Nat.reduceLT, Nat.reduceLeDiff, Int.reduceToNat, Int.reduceLT, Int.reduceLE, Int.reduceEq, Int.reduceAdd, Int.reduceSub, Int.reduceMul, Int.toNat_natCast, reduceCtorEq, decide_true, decide_false, IntWalk.i64_in, IntWalk.u64_in, IntWalk.u8_in, hx]; (simp only [nodeV, cNd_mk, slN, cNds_nil, List.length_nil] <;> rfl)
  by_cases c8 : n = 95
  · subst c8; simp (disch := omega) only [go_sem, ↓IntWalk.iteOmega, IntWalk.toNatUp, Nat.reduceEqDiff, Nat.reduceAdd, Nat.reduceMul, Nat.reduceSub, Nat.reduceLT, Nat.reduceLeDiff, Int.reduceToNat, Int.reduceLT, Int.reduceLE, Int.reduceEq, Int.reduceAdd, Int.reduceSub, Int.reduceMul, Int.toNat_natCast, reduceCtorEq, decide_true, decide_false, IntWalk.i64_in, IntWalk.u64_in, IntWalk.u8_in, hx]; (simp only [nodeV, cNd_mk, slN, cNds_nil, List.length_nil] <;> rfl)
  simp only [c6, c7, c8, if_false]
  simp (disch := omega) only [go_sem, ↓IntWalk.iteOmega, IntWalk.toNatUp, Nat.reduceEqDiff, Nat.reduceAdd, Nat.reduceMul, Nat.reduceSub, Nat.reduceLT, Nat.reduceLeDiff, Int.reduceToNat, Int.reduceLT, Int.reduceLE, Int.reduceEq, Int.reduceAdd, Int.reduceSub, Int.reduceMul, Int.toNat_natCast, reduceCtorEq, decide_true, decide_false, IntWalk.i64_in, IntWalk.u64_in, IntWalk.u8_in, hx, c6, c7, c8]
  simp only [nodeV, cNd_mk, slN, cNds_nil, List.length_nil]
def afterN (c : Int) : Int := if c = 42 then 6 else if c = 43 then 7 else if c = 63 then 8 else if c = 123 then 9 else 0
def RAfter (args : List AV) (r : AV) : Prop := ∃ c : UInt8, args = [.int .u8 c.toNat] ∧ r = .int .i64 (afterN c.toNat)
theorem lookAfter (X) : lookedAt (EX md0 X) (fun _ => none) 1 Tryd.f37 = true := by kernel_rfl
theorem after_ok (args r) (h : RAfter args r) : Ok Tryd.prog 37 args r := by
  obtain ⟨c, rfl, rfl⟩ := h
  refine ok_of_WP (E := EX md0 XIx) XIx_ok (noR_ok _) mixed (k := 0) Tryd.func37 (lookAfter _) rfl ?_
  simp only [Tryd.f37, Option.getD_some]
  generalize (c.toNat : Int) = n at *
  unfold afterN
  by_cases c1 : n = 42
  · subst c1; simp (disch := omega) only [go_sem, ↓IntWalk.iteOmega, IntWalk.toNatUp, Nat.reduceEqDiff, Nat.reduceAdd, Nat.reduceMul, Nat.reduceSub, Nat.reduceLT, Nat.reduceLeDiff, Int.reduceToNat, Int.reduceLT, Int.reduceLE, Int.reduceEq, Int.reduceAdd, Int.reduceSub, Int.reduceMul, Int.toNat_natCast, reduceCtorEq, decide_true, decide_false, IntWalk.i64_in, IntWalk.u64_in, IntWalk.u8_in]
  by_cases c2 : n = 43
  · subst c2; simp (disch := omega) only [go_sem, ↓IntWalk.iteOmega, IntWalk.toNatUp, Nat.reduceEqDiff, Nat.reduceAdd, Nat.reduceMul, Nat.reduceSub, Nat.reduceLT, Nat.reduceLeDiff, Int.reduceToNat, Int.reduceLT, Int.reduceLE, Int.reduceEq, Int.reduceAdd, Int.reduceSub, Int.reduceMul, Int.toNat_natCast, reduceCtorEq, decide_true, decide_false, IntWalk.i64_in, IntWalk.u64_in, IntWalk.u8_in]
  by_cases c3 : n = 63
  · subst c3; simp (disch := omega) only [go_sem, ↓IntWalk.iteOmega, IntWalk.toNatUp, Nat.reduceEqDiff, Nat.reduceAdd, Nat.reduceMul, Nat.reduceSub, Nat.reduceLT, Nat.reduceLeDiff, Int.reduceToNat, Int.reduceLT, Int.reduceLE, Int.reduceEq, Int.reduceAdd, Int.reduceSub, Int.reduceMul, Int.toNat_natCast, reduceCtorEq, decide_true, decide_false, IntWalk.i64_in, IntWalk.u64_in, IntWalk.u8_in]
  by_cases c4 : n = 123
  · subst c4; simp (disch := omega) only [go_sem, ↓IntWalk.iteOmega, IntWalk.toNatUp, Nat.reduceEqDiff, Nat.reduceAdd, Nat.reduceMul, Nat.reduceSub, Nat.reduceLT, Nat.reduceLeDiff, Int.reduceToNat, Int.reduceLT, Int.reduceLE, Int.reduceEq, Int.reduceAdd, Int.reduceSub, Int.reduceMul, Int.toNat_natCast, reduceCtorEq, decide_true, decide_false, IntWalk.i64_in, IntWalk.u64_in, IntWalk.u8_in]
  simp only [c1, c2, c3, c4, if_false]
  simp (disch := omega) only [go_sem, ↓IntWalk.iteOmega, IntWalk.toNatUp, Nat.reduceEqDiff, Nat.reduceAdd, Nat.reduceMul, Nat.reduceSub, Nat.reduceLT, Nat.reduceLeDiff, Int.reduceToNat, Int.reduceLT, Int.reduceLE, Int.reduceEq, Int.reduceAdd, Int.reduceSub, Int.reduceMul, Int.toNat_natCast, reduceCtorEq, decide_true, decide_false, IntWalk.i64_in, IntWalk.u64_in, IntWalk.u8_in, c1, c2, c3, c4]
/-! ### times -/
def byteN (s : List UInt8) (a : Int) : Int := ((s.getD a.toNat 0).toNat : Int)
def digitN (s : List UInt8) (a : Int) : Int := if (s.length : Int) ≤ a then -2 else if 48 ≤ byteN s a ∧ byteN s a ≤ 57 then byteN s a - 48 else -1
def RDigit (args : List AV) (r : AV) : Prop := ∃ s at_ v a, 0 ≤ a ∧ args = [.fptr [.str s, .int .i64 at_, v], .int .i64 a] ∧ r = .int .i64 (digitN s a)
theorem lookDigit (X) : lookedAt (EX md0 X) (fun _ => none) 2 Tryd.f48 = true := by kernel_rfl
theorem byteN_le (s a) : 0 ≤ byteN s a ∧ byteN s a ≤ 255 := by unfold byteN; have := (s.getD a.toNat 0).toNat_lt; omega
theorem byte_at {s : List UInt8} {a : Int} (h0 : 0 ≤ a) (h1 : ¬ (s.length : Int) ≤ a) : ∃ c : UInt8, s[a.toNat]? = some c ∧ byteN s a = c.toNat := by
  have h2 : a.toNat < s.length := by omega
  exact ⟨s[a.toNat], List.getElem?_eq_getElem h2, by rw [byteN, List.getD_eq_getElem?_getD, List.getElem?_eq_getElem h2]; rfl⟩
theorem digit_ok (args r) (h : RDigit args r) : Ok Tryd.prog 48 args r := by
  obtain ⟨s, at_, v, a, h0, rfl, rfl⟩ := h
  refine ok_of_WP (E := EX md0 (fun _ _ => none)) (cp_none _) (noR_ok _) mixed (k := 0) Tryd.func48 (lookDigit _) rfl ?_
  simp only [Tryd.f48, Option.getD_some]
  by_cases h1 : (s.length : Int) ≤ a
  · rw [digitN, if_pos h1]
    simp (disch := omega) only [go_sem, ↓IntWalk.iteOmega, IntWalk.toNatUp, Nat.reduceEqDiff, Nat.reduceAdd, Nat.reduceMul, Nat.reduceSub, Nat.reduceLT, Nat.reduceLeDiff, Int.reduceToNat, Int.reduceLT, Int.reduceLE, Int.reduceEq, Int.reduceAdd, Int.reduceSub, Int.reduceMul, Int.toNat_natCast, reduceCtorEq, decide_true, decide_false, IntWalk.i64_in, IntWalk.u64_in, IntWalk.u8_in]
  · rw [digitN, if_neg h1]
    obtain ⟨c, hc, hb⟩ := byte_at h0 h1
    rw [hb]
    have hlt := c.toNat_lt
    by_cases h2 : 48 ≤ (c.toNat : Int)
    · by_cases h3 : (c.toNat : Int) ≤ 57
      · rw [if_pos ⟨h2, h3⟩]
        simp (disch := omega) only [go_sem, ↓IntWalk.iteOmega, IntWalk.toNatUp, Nat.reduceEqDiff, Nat.reduceAdd, Nat.reduceMul, Nat.reduceSub, Nat.reduceLT, Nat.reduceLeDiff, Int.reduceToNat, Int.reduceLT, Int.reduceLE, Int.reduceEq, Int.reduceAdd, Int.reduceSub, Int.reduceMul, Int.toNat_natCast, reduceCtorEq, decide_true, decide_false, IntWalk.i64_in, IntWalk.u64_in, IntWalk.u8_in, hc]
      · rw [if_neg (by omega)]
        simp (disch := omega) only [go_sem, ↓IntWalk.iteOmega, IntWalk.toNatUp, Nat.reduceEqDiff, Nat.reduceAdd, Nat.reduceMul, Nat.reduceSub, Nat.reduceLT, Nat.reduceLeDiff, Int.reduceToNat, Int.reduceLT, Int.reduceLE, Int.reduceEq, Int.reduceAdd, Int.reduceSub, Int.reduceMul, Int.toNat_natCast, reduceCtorEq, decide_true, decide_false, IntWalk.i64_in, IntWalk.u64_in, IntWalk.u8_in, hc]
    · rw [if_neg (by omega)]
      simp (disch := omega) only [go_sem, ↓IntWalk.iteOmega, IntWalk.toNatUp, Nat.reduceEqDiff, Nat.reduceAdd, Nat.reduceMul, Nat.reduceSub, Nat.reduceLT, Nat.reduceLeDiff, Int.reduceToNat, Int.reduceLT, Int.reduceLE, Int.reduceEq, Int.reduceAdd, Int.reduceSub, Int.reduceMul, Int.toNat_natCast, reduceCtorEq, decide_true, decide_false, IntWalk.i64_in, IntWalk.u64_in, IntWalk.u8_in, hc]
def signAt (s : List UInt8) (a : Int) (c : UInt8) : Int := if (s.length : Int) ≤ a then s.length else if byteN s a = c.toNat then -1 else a
def RSignAt (args : List AV) (r : AV) : Prop := ∃ s at_ v a c, 0 ≤ a ∧ args = [.fptr [.str s, .int .i64 at_, v], .int .i64 a, .int .u8 (UInt8.toNat c)] ∧ r = .int .i64 (signAt s a c)
theorem lookSignAt (X) : lookedAt (EX md0 X) (fun _ => none) 3 Tryd.f49 = true := by kernel_rfl
theorem signAt_ok (args r) (h : RSignAt args r) : Ok Tryd.prog 49 args r := by
  obtain ⟨s, at_, v, a, c, h0, rfl, rfl⟩ := h
  refine ok_of_WP (E := EX md0 (fun _ _ => none)) (cp_none _) (noR_ok _) mixed (k := 0) Tryd.func49 (lookSignAt _) rfl ?_
  simp only [Tryd.f49, Option.getD_some]
  have m1 : aMin [.int .i64 a, .int .i64 s.length] = some (.int .i64 (if (s.length : Int) < a then s.length else a)) := rfl
  by_cases h1 : (s.length : Int) ≤ a
  · rw [signAt, if_pos h1]
    have m2 : (if (s.length : Int) < a then (s.length : Int) else a) = s.length := by split <;> omega
    rw [m2] at m1
    simp (disch := omega) only [go_sem, ↓IntWalk.iteOmega, IntWalk.toNatUp, Nat.reduceEqDiff, Nat.reduceAdd, Nat.reduceMul, Nat.reduceSub, Nat.reduceLT, Nat.reduceLeDiff, Int.reduceToNat, Int.reduceLT, Int.reduceLE, Int.reduceEq, Int.reduceAdd, Int.reduceSub, Int.reduceMul, Int.toNat_natCast, reduceCtorEq, decide_true, decide_false, IntWalk.i64_in, IntWalk.u64_in, IntWalk.u8_in, m1]
  · rw [signAt, if_neg h1]
    obtain ⟨e, he, hb⟩ := byte_at h0 h1
    rw [hb]
    have hlt := c.toNat_lt
    have hlt' := e.toNat_lt
    by_cases h2 : (e.toNat : Int) = c.toNat
    · rw [if_pos h2]
      simp (disch := omega) only [go_sem, ↓IntWalk.iteOmega, IntWalk.toNatUp, Nat.reduceEqDiff, Nat.reduceAdd, Nat.reduceMul, Nat.reduceSub, Nat.reduceLT, Nat.reduceLeDiff, Int.reduceToNat, Int.reduceLT, Int.reduceLE, Int.reduceEq, Int.reduceAdd, Int.reduceSub, Int.reduceMul, Int.toNat_natCast, reduceCtorEq, decide_true, decide_false, IntWalk.i64_in, IntWalk.u64_in, IntWalk.u8_in, he, h2, h1]
    · rw [if_neg h2]
      rw [if_neg (by omega)] at m1
      simp (disch := omega) only [go_sem, ↓IntWalk.iteOmega, IntWalk.toNatUp, Nat.reduceEqDiff, Nat.reduceAdd, Nat.reduceMul, Nat.reduceSub, Nat.reduceLT, Nat.reduceLeDiff, Int.reduceToNat, Int.reduceLT, Int.reduceLE, Int.reduceEq, Int.reduceAdd, Int.reduceSub, Int.reduceMul, Int.toNat_natCast, reduceCtorEq, decide_true, decide_false, IntWalk.i64_in, IntWalk.u64_in, IntWalk.u8_in, he, h2, m1, h1]
def timesN (s : List UInt8) (at_ : Int) : Int × Int × Int :=
  if digitN s (at_ + 1) = -2 then (0, 0, s.length) else if digitN s (at_ + 1) < 0 then (0, 0, at_) else
  if 0 ≤ signAt s (at_ + 2) 44 then (0, 0, signAt s (at_ + 2) 44) else
  if digitN s (at_ + 3) = -2 then (0, 0, s.length) else if digitN s (at_ + 3) < 0 then (0, 0, at_) else
  if 0 ≤ signAt s (at_ + 4) 125 then (0, 0, signAt s (at_ + 4) 125) else
  if digitN s (at_ + 3) < digitN s (at_ + 1) then (0, 0, at_) else (digitN s (at_ + 1), digitN s (at_ + 3), -1)
def RTimes (args : List AV) (r : AV) : Prop := ∃ s at_ v, 0 ≤ at_ ∧ at_ ≤ 1000 ∧ args = [.fptr [.str s, .int .i64 at_, v]] ∧ r = .tup [.int .i64 (timesN s at_).1, .int .i64 (timesN s at_).2.1, .int .i64 (timesN s at_).2.2]
theorem lookTimes (X) : lookedAt (EX md0 X) (fun _ => none) 1 Tryd.f38 = true := by kernel_rfl
theorem RDigit_fn : Fun1 RDigit := by
  rintro args r r' ⟨s, a, v, x, _, rfl, rfl⟩ ⟨s', a', v', x', _, h, rfl⟩
  simp only [List.cons.injEq, AV.fptr.injEq, AV.str.injEq, AV.int.injEq, and_true, true_and] at h
  rw [h.1.1, h.2]
theorem RSignAt_fn : Fun1 RSignAt := by
  rintro args r r' ⟨s, a, v, x, c, _, rfl, rfl⟩ ⟨s', a', v', x', c', _, h, rfl⟩
  simp only [List.cons.injEq, AV.fptr.injEq, AV.str.injEq, AV.int.injEq, and_true, true_and] at h
  have : c = c' := UInt8.toNat_inj.mp (by omega)
  rw [h.1.1, h.2.1, this]
noncomputable def XDs : FuncId → List AV → Option AV := tabLook [(48, tRel RDigit), (49, tRel RSignAt)]
theorem XDs_ok : CPSound Tryd.prog XDs := tab_cons (tab_cons (tab_nil _) (tRel_ok signAt_ok)) (tRel_ok digit_ok)
theorem XDs_digit (s at_ v a) (h : 0 ≤ a) : XDs 48 [.fptr [.str s, .int .i64 at_, v], .int .i64 a] = some (.int .i64 (digitN s a)) := tRel_eq RDigit_fn ⟨s, at_, v, a, h, rfl, rfl⟩
theorem XDs_sign (s at_ v a) (c : UInt8) (h : 0 ≤ a) : XDs 49 [.fptr [.str s, .int .i64 at_, v], .int .i64 a, .int .u8 (UInt8.toNat c)] = some (.int .i64 (signAt s a c)) := tRel_eq RSignAt_fn ⟨s, at_, v, a, c, h, rfl, rfl⟩
theorem times_ok (args r) (h : RTimes args r) : Ok Tryd.prog 38 args r := by
  obtain ⟨s, at_, v, h0, h1, rfl, rfl⟩ := h
  refine ok_of_WP (E := EX md0 XDs) XDs_ok (noR_ok _) mixed (k := 0) Tryd.func38 (lookTimes _) rfl ?_
  have x1 : ∀ a : Int, 0 ≤ a → XDs 48 [.fptr [.str s, .int .i64 at_, v], .int .i64 a] = some (.int .i64 (digitN s a)) := fun a ha => XDs_digit s at_ v a ha
  have x2 : ∀ a : Int, 0 ≤ a → XDs 49 [.fptr [.str s, .int .i64 at_, v], .int .i64 a, .int .u8 44] = some (.int .i64 (signAt s a 44)) := fun a ha => XDs_sign s at_ v a 44 ha
  have x3 : ∀ a : Int, 0 ≤ a → XDs 49 [.fptr [.str s, .int .i64 at_, v], .int .i64 a, .int .u8 125] = some (.int .i64 (signAt s a 125)) := fun a ha => XDs_sign s at_ v a 125 ha
  simp only [Tryd.f38, Option.getD_some]
  unfold timesN
  by_cases c1 : digitN s (at_ + 1) = -2
  · rw [if_pos c1]
    simp (disch := omega) only [go_sem, ↓IntWalk.iteOmega, IntWalk.toNatUp, Nat.reduceEqDiff, Nat.reduceAdd, Nat.reduceMul, Nat.reduceSub, Nat.reduceLT, Nat.reduceLeDiff, Int.reduceToNat, Int.reduceLT, Int.reduceLE, Int.reduceEq, Int.reduceAdd, Int.reduceSub, Int.reduceMul, Int.toNat_natCast, reduceCtorEq, decide_true, decide_false, IntWalk.i64_in, IntWalk.u64_in, IntWalk.u8_in, x1, x2, x3, c1]
  rw [if_neg c1]
  by_cases c2 : digitN s (at_ + 1) < 0
  · rw [if_pos c2]
    simp (disch := omega) only [go_sem, ↓IntWalk.iteOmega, IntWalk.toNatUp, Nat.reduceEqDiff, Nat.reduceAdd, Nat.reduceMul, Nat.reduceSub, Nat.reduceLT, Nat.reduceLeDiff, Int.reduceToNat, Int.reduceLT, Int.reduceLE, Int.reduceEq, Int.reduceAdd, Int.reduceSub, Int.reduceMul, Int.toNat_natCast, reduceCtorEq, decide_true, decide_false, IntWalk.i64_in, IntWalk.u64_in, IntWalk.u8_in, x1, x2, x3, c1, c2]
  rw [if_neg c2]
  by_cases c3 : 0 ≤ signAt s (at_ + 2) 44
  · rw [if_pos c3]
    simp (disch := omega) only [go_sem, ↓IntWalk.iteOmega, IntWalk.toNatUp, Nat.reduceEqDiff, Nat.reduceAdd, Nat.reduceMul, Nat.reduceSub, Nat.reduceLT, Nat.reduceLeDiff, Int.reduceToNat, Int.reduceLT, Int.reduceLE, Int.reduceEq, Int.reduceAdd, Int.reduceSub, Int.reduceMul, Int.toNat_natCast, reduceCtorEq, decide_true, decide_false, IntWalk.i64_in, IntWalk.u64_in, IntWalk.u8_in, x1, x2, x3, c1, c2, c3]
  rw [if_neg c3]
  by_cases c4 : digitN s (at_ + 3) = -2
  · rw [if_pos c4]
    simp (disch := omega) only [go_sem, ↓IntWalk.iteOmega, IntWalk.toNatUp, Nat.reduceEqDiff, Nat.reduceAdd, Nat.reduceMul, Nat.reduceSub, Nat.reduceLT, Nat.reduceLeDiff, Int.reduceToNat, Int.reduceLT, Int.reduceLE, Int.reduceEq, Int.reduceAdd, Int.reduceSub, Int.reduceMul, Int.toNat_natCast, reduceCtorEq, decide_true, decide_false, IntWalk.i64_in, IntWalk.u64_in, IntWalk.u8_in, x1, x2, x3, c1, c2, c3, c4]
  rw [if_neg c4]
  by_cases c5 : digitN s (at_ + 3) < 0
  · rw [if_pos c5]
    simp (disch := omega) only [go_sem, ↓IntWalk.iteOmega, IntWalk.toNatUp, Nat.reduceEqDiff, Nat.reduceAdd, Nat.reduceMul, Nat.reduceSub, Nat.reduceLT, Nat.reduceLeDiff, Int.reduceToNat, Int.reduceLT, Int.reduceLE, Int.reduceEq, Int.reduceAdd, Int.reduceSub, Int.reduceMul, Int.toNat_natCast, reduceCtorEq, decide_true, decide_false, IntWalk.i64_in, IntWalk.u64_in, IntWalk.u8_in, x1, x2, x3, c1, c2, c3, c4, c5]
  rw [if_neg c5]
  by_cases c6 : 0 ≤ signAt s (at_ + 4) 125
  · rw [if_pos c6]
    simp (disch := omega) only [go_sem, ↓IntWalk.iteOmega, IntWalk.toNatUp, Nat.reduceEqDiff, Nat.reduceAdd, Nat.reduceMul, Nat.reduceSub, Nat.reduceLT, Nat.reduceLeDiff, Int.reduceToNat, Int.reduceLT, Int.reduceLE, Int.reduceEq, Int.reduceAdd, Int.reduceSub, Int.reduceMul, Int.toNat_natCast, reduceCtorEq, decide_true, decide_false, IntWalk.i64_in, IntWalk.u64_in, IntWalk.u8_in, x1, x2, x3, c1, c2, c3, c4, c5, c6]
  rw [if_neg c6]
  by_cases c7 : digitN s (at_ + 3) < digitN s (at_ + 1)
  · rw [if_pos c7]
    simp (disch := omega) only [go_sem, ↓IntWalk.iteOmega, IntWalk.toNatUp, Nat.reduceEqDiff, Nat.reduceAdd, Nat.reduceMul, Nat.reduceSub, Nat.reduceLT, Nat.reduceLeDiff, Int.reduceToNat, Int.reduceLT, Int.reduceLE, Int.reduceEq, Int.reduceAdd, Int.reduceSub, Int.reduceMul, Int.toNat_natCast, reduceCtorEq, decide_true, decide_false, IntWalk.i64_in, IntWalk.u64_in, IntWalk.u8_in, x1, x2, x3, c1, c2, c3, c4, c5, c6, c7]
  rw [if_neg c7]
  simp (disch := omega) only [go_sem, ↓IntWalk.iteOmega, IntWalk.toNatUp, Nat.reduceEqDiff, Nat.reduceAdd, Nat.reduceMul, Nat.reduceSub, Nat.reduceLT, Nat.reduceLeDiff, Int.reduceToNat, Int.reduceLT, Int.reduceLE, Int.reduceEq, Int.reduceAdd, Int.reduceSub, Int.reduceMul, Int.toNat_natCast, reduceCtorEq, decide_true, decide_false, IntWalk.i64_in, IntWalk.u64_in, IntWalk.u8_in, x1, x2, x3, c1, c2, c3, c4, c5, c6, c7]
end Go.Proofs.YtmcbfbpdfbcakaaDoor.A
/- Expressions read: last, behind, or, class on the reader. -/
namespace Go.Proofs.YtmcbfbpdfbcakaaDoor.A
open Go
set_option maxRecDepth 20000
theorem lookLast (X) : lookedAt (EX md0 X) (fun _ => none) 1 Tryd.f50 = true := by kernel_rfl
theorem readsLast (X) : readsF (EX md0 X) 50 = true := by kernel_rfl
noncomputable def cLast (args : List AV) (H : AH) : Option (AV × AH) := if args.length = 1 then runP (EX md0 (fun _ _ => none)) noR 0 (fun _ => none) Tryd.f50 args H else none
theorem cLast_ok (args H v H') (h : cLast args H = some (v, H')) : OkR Tryd.prog 50 args H v H' := by
  unfold cLast at h
  split at h
  · rename_i hn
    exact okR_run (E := EX md0 (fun _ _ => none)) (cp_none _) (noR_ok Tryd.prog).1 (noR_ok Tryd.prog).2 mixed Tryd.func50 (by rw [hn]; exact lookLast _) h
  · cases h
theorem cLast_keep (args H v H') (h : cLast args H = some (v, H')) (t : Tag) (_ : t.1 < H.nx) : H'.o t = H.o t := by
  unfold cLast at h
  split at h
  · rename_i hn
    rw [← runP_body (E := EX md0 (fun _ _ => none)) (f := 50) Tryd.func50 (by rw [hn]; exact lookLast _)] at h
    rw [body_reads (readsLast _) h]
  · cases h
theorem last_call {o : Ob} {nx : Nat} {s at_ g d pre vU post} {i : Nat} {gj : Tag} {n : Nat} {cs : List AV} {K : AV × AH → Prop} (h : Stk o nx s at_ g d pre vU (.ref (i, 11) gj 0 (n + 1)) post) (hj : o (i, 11) = some (.row ⟨29, 5, gj, false, true, cs⟩)) (hc : cs.length = (n + 1) * 5) (hn : n ≤ 1000) (hK : K (.ptr (i, 11) gj (n * 5), ⟨o, nx + 2⟩)) : wO (Option.map (fun p => freezeR false p.1 p.2) (cLast [levP g d] ⟨o, nx⟩)) K := by
  have h2 := h.par
  have h3 := h.lev
  have h4 := h.len
  have h5 := h.le
  have h6 : ∀ x y : AV, (pre ++ x :: y :: post).length = d * 2 + (post.length + 2) := fun x y => by rw [List.length_append, h4]; rfl
  have d0 : ∀ x y : AV, (pre ++ x :: y :: post).drop (d * 2) = x :: y :: post := fun x y => drop_p0 h4
  have d1 : ∀ x y : AV, (pre ++ x :: y :: post).drop (d * 2 + 1) = y :: post := fun x y => drop_p1 h4
  refine runP_call' (fn := Tryd.f50) (c := Tryd.f50.body.getD .skip) rfl ?_
  simp only [Tryd.f50, Option.getD_some]
  simp (disch := omega) only [go_sem, ↓IntWalk.iteOmega, IntWalk.toNatUp, Nat.reduceEqDiff, Nat.reduceAdd, Nat.reduceMul, Nat.reduceSub, Nat.reduceLT, Nat.reduceLeDiff, Int.reduceToNat, Int.reduceLT, Int.reduceLE, Int.reduceEq, Int.reduceAdd, Int.reduceSub, Int.reduceMul, Int.toNat_natCast, reduceCtorEq, decide_true, decide_false, IntWalk.i64_in, IntWalk.u64_in, IntWalk.u8_in, h3, h6, d0, d1, hj, hc]
  exact hK
noncomputable def crTL : CallR := tabLookR [(33, cTop), (50, cLast)]
theorem crTL_ok : CRSound Tryd.prog crTL ∧ Up crTL := tabR_cons (tabR_cons (tabR_nil _) cLast_ok (fun _ => cLast_keep)) cTop_ok (fun _ => cTop_keep)
def nzBeh : Nat → Option (List (Nat × Nat))
  | _ => none
theorem lookBeh (X) : lookedAt (EX md0 X) nzBeh 4 Tryd.f39 = true := by kernel_rfl
noncomputable def cBeh (args : List AV) (H : AH) : Option (AV × AH) := if args.length = 4 then runP (EX md0 (fun _ _ => none)) crTL 0 nzBeh Tryd.f39 args H else none
theorem cBeh_ok (args H v H') (h : cBeh args H = some (v, H')) : OkR Tryd.prog 39 args H v H' := by
  unfold cBeh at h
  split at h
  · rename_i hn
    exact okR_run (E := EX md0 (fun _ _ => none)) (cp_none _) crTL_ok.1 crTL_ok.2 mixed Tryd.func39 (by rw [hn]; exact lookBeh _) h
  · cases h
theorem crTL_top : crTL 33 = cTop := rfl
theorem crTL_last : crTL 50 = cLast := rfl
theorem beh_call {o : Ob} {nx : Nat} {s at_ g d pre vU vJ post} {b D : Nat} {U J : List Nd} (k lo hi : Int) (x : Nd) {K : AV × AH → Prop} (h : Stk o nx s at_ g d pre vU vJ post) (hL : Lv b o nx D vU vJ U (J ++ [x])) (hb : 3 ≤ b) (hbn : b ≤ nx) (hJ : J.length ≤ 1000)
    (hK : ∀ o' nx' vJ', nx ≤ nx' → Stk o' nx' s at_ g d pre vU vJ' post → Lv b o' nx' (D + 1) vU vJ' U (J ++ [.mk k 0 lo hi [x]]) → KeepL b nx o o' → K (.tup [], ⟨o', nx'⟩)) : wO (Option.map (fun p => freezeR false p.1 p.2) (cBeh [parP, .int .i64 k, .int .i64 lo, .int .i64 hi] ⟨o, nx⟩)) K := by
  have h1 := h.cell
  have h2 := h.par
  have h3 := h.lev
  have h0 := h.lt
  rcases hL.j with ⟨_, e⟩ | ⟨i, gj, cs, i1, i2, rfl, i3, i4⟩
  · exact absurd e (by simp)
  rw [List.length_append, List.length_singleton] at *
  obtain ⟨c0, c1, rfl, n0, n1⟩ := i4.last
  have l0 := n0.length
  have l1 := n1.length
  have k1 := n1.ok
  refine runP_call' (fn := Tryd.f39) (c := Tryd.f39.body.getD .skip) rfl ?_
  simp only [Tryd.f39, Option.getD_some]
  simp (disch := omega) only [go_sem, ↓IntWalk.iteOmega, IntWalk.toNatUp, Nat.reduceEqDiff, Nat.reduceAdd, Nat.reduceMul, Nat.reduceSub, Nat.reduceLT, Nat.reduceLeDiff, Int.reduceToNat, Int.reduceLT, Int.reduceLE, Int.reduceEq, Int.reduceAdd, Int.reduceSub, Int.reduceMul, Int.toNat_natCast, reduceCtorEq, decide_true, decide_false, IntWalk.i64_in, IntWalk.u64_in, IntWalk.u8_in, nzBeh, crTL_top, crTL_last]
  refine top_call (h.keep (by omega) rfl rfl rfl) ?_
  simp (disch := omega) only [go_sem, ↓IntWalk.iteOmega, IntWalk.toNatUp, Nat.reduceEqDiff, Nat.reduceAdd, Nat.reduceMul, Nat.reduceSub, Nat.reduceLT, Nat.reduceLeDiff, Int.reduceToNat, Int.reduceLT, Int.reduceLE, Int.reduceEq, Int.reduceAdd, Int.reduceSub, Int.reduceMul, Int.toNat_natCast, reduceCtorEq, decide_true, decide_false, IntWalk.i64_in, IntWalk.u64_in, IntWalk.u8_in, nzBeh, crTL_top, crTL_last]
  refine last_call (cs := c0 ++ c1) (h.keep (by omega) rfl rfl rfl) i3 (by rw [List.length_append, l0, l1]; omega) hJ ?_
  have hd : (c0 ++ c1).drop (J.length * 5) = c1 := by rw [← l0]; exact List.drop_left' rfl
  have hl : (c0 ++ c1).length = J.length * 5 + 5 := by rw [List.length_append, l0, l1]
  have htk : c1.take 5 = c1 := take_len l1
  have hs : ∀ y : List AV, y.length = 5 → splice (c0 ++ c1) (J.length * 5) y = c0 ++ y := fun y hy => by
    unfold splice
    rw [← l0, List.take_left' rfl, List.drop_of_length_le (by rw [List.length_append, l1, hy]; omega)]
    simp
  have hs1 : ∀ a1 a2 a3 a4 a5 : AV, splice (c0 ++ c1) (J.length * 5) [a1, a2, a3, a4, a5] = c0 ++ [a1, a2, a3, a4, a5] := fun _ _ _ _ _ => hs _ rfl
  simp (disch := omega) only [go_sem, ↓IntWalk.iteOmega, IntWalk.toNatUp, Nat.reduceEqDiff, Nat.reduceAdd, Nat.reduceMul, Nat.reduceSub, Nat.reduceLT, Nat.reduceLeDiff, Int.reduceToNat, Int.reduceLT, Int.reduceLE, Int.reduceEq, Int.reduceAdd, Int.reduceSub, Int.reduceMul, Int.toNat_natCast, reduceCtorEq, decide_true, decide_false, IntWalk.i64_in, IntWalk.u64_in, IntWalk.u8_in, nzBeh, crTL_top, crTL_last, i3, hd, hl, htk, hs1, k1, l1]
  refine hK _ _ _ (by omega) (h.keep (by omega) (by simp [upd_app]) (by simp [upd_app]) (by simp [upd_app])) ⟨?_, ?_⟩ ?_
  · rcases hL.u with h7 | ⟨i', gu, j1, j2, j3, j4⟩
    · exact .inl h7
    · exact .inr ⟨i', gu, j1, by omega, j3, by simp [upd_app, j4]⟩
  · have hk19 : ∀ (y z : AObj) (i' : Nat), b ≤ i' → i' < nx → upd (upd o (nx + 1 + 2 + 2, 19) y) (i, 11) z (i', 19) = o (i', 19) := fun y z i' _ hi' => by
      have e1 : ¬ i' = nx + 1 + 2 + 2 := by omega
      simp [upd_app, e1]
    refine .inr ⟨i, gj, _, by omega, by omega, by rw [List.length_append, List.length_singleton], upd_same _ _ _, ((n0.keep (by omega) (hk19 _ _)).up (by omega)).snoc ?_⟩
    exact .beh D (nx + 1 + 2 + 2) _ false k lo hi x c1 (by omega) (by omega) (by simp [upd_app]) (n1.keep (by omega) (hk19 _ _))
  · intro i' k' hi a1 a2 a3
    have e1 : ¬ i' = nx + 1 + 2 + 2 := by omega
    have e4 : (i', k') ≠ (i, 11) := fun e => (a3 (by cases e; omega)).1 (by cases e; rfl)
    rw [upd_off e4]
    simp [upd_app, e1]
/-! ### or -/
noncomputable def XMany : FuncId → List AV → Option AV := tabLook [(41, tRel RMany)]
theorem XMany_ok : CPSound Tryd.prog XMany := tab_cons (tab_nil _) (tRel_ok many_ok)
theorem RMany_fn : Fun1 RMany := by
  rintro args r r' ⟨k, l, _, _, rfl, rfl⟩ ⟨k', l', _, _, h, rfl⟩
  simp only [List.cons.injEq, AV.int.injEq, AV.sl.injEq, and_true, true_and] at h
  rw [h.1, cNds_inj h.2.2]
theorem XMany_eq (k : Int) (l : List Nd) (h0 : l ≠ []) (h1 : l.length ≤ 1000) : XMany 41 [.int .i64 k, slN l] = some (nodeV (manyN k l)) := tRel_eq RMany_fn ⟨k, l, h0, h1, rfl, rfl⟩
def nzOr : Nat → Option (List (Nat × Nat))
  | 0 => some [(5, 10), (5, 11)]
  | _ => none
theorem lookOr (X) : lookedAt (EX md0 X) nzOr 1 Tryd.f40 = true := by kernel_rfl
noncomputable def cOr (args : List AV) (H : AH) : Option (AV × AH) := if args.length = 1 then runP (EX md0 XMany) noR 0 nzOr Tryd.f40 args H else none
theorem cOr_ok (args H v H') (h : cOr args H = some (v, H')) : OkR Tryd.prog 40 args H v H' := by
  unfold cOr at h
  split at h
  · rename_i hn
    exact okR_run (E := EX md0 XMany) XMany_ok (noR_ok Tryd.prog).1 (noR_ok Tryd.prog).2 mixed Tryd.func40 (by rw [hn]; exact lookOr _) h
  · cases h
/-- What is seen of nodes that stand in rows. -/
theorem NdAt.view {o : Ob} {b nx d : Nat} {cs : List AV} {n : Nd} (h : NdAt o b nx d cs n) : ∀ {e : Nat}, d ≤ e → cs.map (A.view o e) = cNd n := by
  induction h with
  | data d n => intro e _; exact view_cNd o e n
  | leaf d k s lo hi =>
    intro e _
    simp (disch := omega) only [go_sem, ↓IntWalk.iteOmega, IntWalk.toNatUp, Nat.reduceEqDiff, Nat.reduceAdd, Nat.reduceMul, Nat.reduceSub, Nat.reduceLT, Nat.reduceLeDiff, Int.reduceToNat, Int.reduceLT, Int.reduceLE, Int.reduceEq, Int.reduceAdd, Int.reduceSub, Int.reduceMul, Int.toNat_natCast, reduceCtorEq, decide_true, decide_false, IntWalk.i64_in, IntWalk.u64_in, IntWalk.u8_in]
    rw [slN, cNds_nil]
    rfl
  | beh d i g ro k lo hi x cs h1 h2 h3 h4 ih =>
    intro e he
    obtain ⟨e, rfl⟩ : ∃ e', e = e' + 1 := ⟨e - 1, by omega⟩
    have := ih (e := e) (by omega)
    have hl := h4.length
    have htk : cs.take 5 = cs := take_len hl
    simp (disch := omega) only [go_sem, ↓IntWalk.iteOmega, IntWalk.toNatUp, Nat.reduceEqDiff, Nat.reduceAdd, Nat.reduceMul, Nat.reduceSub, Nat.reduceLT, Nat.reduceLeDiff, Int.reduceToNat, Int.reduceLT, Int.reduceLE, Int.reduceEq, Int.reduceAdd, Int.reduceSub, Int.reduceMul, Int.toNat_natCast, reduceCtorEq, decide_true, decide_false, IntWalk.i64_in, IntWalk.u64_in, IntWalk.u8_in, h3, htk, this, hl]
    rw [slN, cNds_one]
    rfl
theorem NdsAt.view {o : Ob} {b nx d : Nat} {cs : List AV} {l : List Nd} (h : NdsAt o b nx d cs l) {e : Nat} (he : d ≤ e) : cs.map (A.view o e) = cNds l := by
  induction h with
  | nil => rw [cNds_nil]; rfl
  | cons c cs n l h1 _ ih => rw [List.map_append, h1.view he, ih, cNds_cons]
theorem NdAt.tags {o : Ob} {b nx d : Nat} {cs : List AV} {n : Nd} (h : NdAt o b nx d cs n) : ∀ (e : Nat) (t : Tag), t ∈ cs.flatMap (viewTags o e) → t.2 = 19 ∧ b ≤ t.1 ∧ t.1 < nx := by
  induction h with
  | data d n => intro e t ht; rw [tags_cNd] at ht; cases ht
  | leaf d k s lo hi =>
    intro e t ht
    cases e <;> simp [viewTags] at ht
  | beh d i g ro k lo hi x cs h1 h2 h3 h4 ih =>
    intro e t ht
    cases e with
    | zero => simp [viewTags] at ht
    | succ e =>
      have hl := h4.length
      have htk : cs.take 5 = cs := take_len hl
      simp (disch := omega) only [go_sem, ↓IntWalk.iteOmega, IntWalk.toNatUp, Nat.reduceEqDiff, Nat.reduceAdd, Nat.reduceMul, Nat.reduceSub, Nat.reduceLT, Nat.reduceLeDiff, Int.reduceToNat, Int.reduceLT, Int.reduceLE, Int.reduceEq, Int.reduceAdd, Int.reduceSub, Int.reduceMul, Int.toNat_natCast, reduceCtorEq, decide_true, decide_false, IntWalk.i64_in, IntWalk.u64_in, IntWalk.u8_in, h3, htk] at ht
      simp only [List.append_nil, List.nil_append, List.mem_cons] at ht
      rcases ht with rfl | ht
      · exact ⟨rfl, h1, h2⟩
      · exact ih e t ht
theorem NdsAt.tags {o : Ob} {b nx d : Nat} {cs : List AV} {l : List Nd} (h : NdsAt o b nx d cs l) (e : Nat) (t : Tag) (ht : t ∈ cs.flatMap (viewTags o e)) : t.2 = 19 ∧ b ≤ t.1 ∧ t.1 < nx := by
  induction h with
  | nil => cases ht
  | cons c cs n l h1 _ ih =>
    rw [List.flatMap_append, List.mem_append] at ht
    rcases ht with ht | ht
    · exact h1.tags e t ht
    · exact ih ht
theorem Lv.viewJ {b : Nat} {o : Ob} {nx D : Nat} {vU vJ : AV} {U J : List Nd} (h : Lv b o nx D vU vJ U J) (hD : D ≤ 1000) (hJ : J ≠ []) : A.view o 1012 vJ = slN J := by
  rcases h.j with ⟨_, e⟩ | ⟨i, gj, cs, i1, i2, rfl, i3, i4⟩
  · exact absurd e hJ
  have hl := i4.length
  have htk : cs.take (J.length * 5) = cs := take_len hl
  have hv := i4.view (e := 1011) (by omega)
  simp (disch := omega) only [go_sem, ↓IntWalk.iteOmega, IntWalk.toNatUp, Nat.reduceEqDiff, Nat.reduceAdd, Nat.reduceMul, Nat.reduceSub, Nat.reduceLT, Nat.reduceLeDiff, Int.reduceToNat, Int.reduceLT, Int.reduceLE, Int.reduceEq, Int.reduceAdd, Int.reduceSub, Int.reduceMul, Int.toNat_natCast, reduceCtorEq, decide_true, decide_false, IntWalk.i64_in, IntWalk.u64_in, IntWalk.u8_in, i3, hl, htk, hv]
theorem Lv.tagsJ {b : Nat} {o : Ob} {nx D : Nat} {vU vJ : AV} {U J : List Nd} (h : Lv b o nx D vU vJ U J) (t : Tag) (ht : t ∈ viewTags o 1012 vJ) : (t.2 = 11 ∨ t.2 = 19) ∧ b ≤ t.1 ∧ t.1 < nx := by
  rcases h.j with ⟨rfl, e⟩ | ⟨i, gj, cs, i1, i2, rfl, i3, i4⟩
  · simp [viewTags] at ht
  have hl := i4.length
  have htk : cs.take (J.length * 5) = cs := take_len hl
  simp (disch := omega) only [go_sem, ↓IntWalk.iteOmega, IntWalk.toNatUp, Nat.reduceEqDiff, Nat.reduceAdd, Nat.reduceMul, Nat.reduceSub, Nat.reduceLT, Nat.reduceLeDiff, Int.reduceToNat, Int.reduceLT, Int.reduceLE, Int.reduceEq, Int.reduceAdd, Int.reduceSub, Int.reduceMul, Int.toNat_natCast, reduceCtorEq, decide_true, decide_false, IntWalk.i64_in, IntWalk.u64_in, IntWalk.u8_in, i3, htk] at ht
  simp only [List.drop_zero, List.mem_cons, htk] at ht
  rcases ht with rfl | ht
  · exact ⟨.inl rfl, i1, i2⟩
  · have := i4.tags 1011 t ht
    exact ⟨.inr this.1, this.2⟩
theorem nin_of {t : Tag} {l : List Tag} (h : t ∉ l) : nin t l = true := by unfold nin; simp [h]
theorem or_call {o : Ob} {nx : Nat} {s at_ g d pre vU vJ post} {b D : Nat} {U J : List Nd} {K : AV × AH → Prop} (h : Stk o nx s at_ g d pre vU vJ post) (hL : Lv b o nx D vU vJ U J) (hb : 3 ≤ b) (hbn : b ≤ nx) (hD : D ≤ 1000) (hJ0 : J ≠ []) (hJ : J.length ≤ 1000) (hU : U.length ≤ 1000)
    (hK : ∀ o' nx' vU', nx ≤ nx' → Stk o' nx' s at_ g d pre vU' .nil post → Lv b o' nx' D vU' .nil (U ++ [manyN 4 J]) [] → KeepL b nx o o' → K (.tup [], ⟨o', nx'⟩)) : wO (Option.map (fun p => freezeR false p.1 p.2) (cOr [levP g d] ⟨o, nx⟩)) K := by
  have h0 := h.lt
  have h1 := h.cell
  have h2 := h.par
  have h3 := h.lev
  have h4 := h.len
  have h5 := h.le
  have h6 : ∀ x y : AV, (pre ++ x :: y :: post).length = d * 2 + (post.length + 2) := fun x y => by rw [List.length_append, h4]; rfl
  have d0 : ∀ x y : AV, (pre ++ x :: y :: post).drop (d * 2) = x :: y :: post := fun x y => drop_p0 h4
  have d1 : ∀ x y : AV, (pre ++ x :: y :: post).drop (d * 2 + 1) = y :: post := fun x y => drop_p1 h4
  have s0 : ∀ x y z : AV, splice (pre ++ x :: y :: post) (d * 2) [z] = pre ++ z :: y :: post := fun x y z => splice_p0 h4
  have s1 : ∀ x y z : AV, splice (pre ++ x :: y :: post) (d * 2 + 1) [z] = pre ++ x :: z :: post := fun x y z => splice_p1 h4
  have hv := hL.viewJ hD hJ0
  have ht := hL.tagsJ
  have hn : ∀ i k, k ≠ 11 → k ≠ 19 → nin (i, k) (viewTags o 1012 vJ) = true := fun i k e1 e2 => nin_of (fun hm => by have := (ht _ hm).1; simp_all)
  have hX := XMany_eq 4 J hJ0 hJ
  have hkp : ∀ i k, (b ≤ i → i < nx → k ≠ 11 ∧ k ≠ 19) → sealed (viewTags o 1012 vJ) o (i, k) = o (i, k) := fun i k hk => sealed_out (fun hm => by
    obtain ⟨e1, e2, e3⟩ := ht _ hm
    have := hk e2 e3
    rcases e1 with e1 | e1
    · exact this.1 e1
    · exact this.2 e1)
  have hall : ((viewTags o 1012 vJ).all fun t => nin t [(2, 21)]) = true := by
    rw [List.all_eq_true]
    intro t hm
    refine nin_of (fun e => ?_)
    rw [List.mem_singleton] at e
    subst e
    have := (ht _ hm).2.1
    simp at this
    omega
  refine runP_call' (fn := Tryd.f40) (c := Tryd.f40.body.getD .skip) rfl ?_
  simp only [Tryd.f40, Option.getD_some]
  rcases hL.u with ⟨rfl, rfl⟩ | ⟨i, gu, i1, i2, rfl, i3⟩
  · simp (disch := omega) only [go_sem, ↓IntWalk.iteOmega, IntWalk.toNatUp, Nat.reduceEqDiff, Nat.reduceAdd, Nat.reduceMul, Nat.reduceSub, Nat.reduceLT, Nat.reduceLeDiff, Int.reduceToNat, Int.reduceLT, Int.reduceLE, Int.reduceEq, Int.reduceAdd, Int.reduceSub, Int.reduceMul, Int.toNat_natCast, reduceCtorEq, decide_true, decide_false, IntWalk.i64_in, IntWalk.u64_in, IntWalk.u8_in, nzOr, h1, h2, h3, h6, d0, d1, s0, s1, hv, hn, hX]
    refine ⟨hall, hK _ _ _ (by omega) ⟨by omega, by simp [upd_app, hkp, h1], by simp [upd_app, hkp, h2], upd_same _ _ _, h4, h5⟩ ⟨?_, .inl ⟨rfl, rfl⟩⟩ ?_⟩
    · exact .inr ⟨nx, (nx, 14), hbn, by omega, rfl, by simp [upd_app, cNds_one]⟩
    · intro i k hi a1 a2 a3
      have e1 : ¬ i = nx := by omega
      rw [upd_off a1, upd_off a1]
      simp only [upd_app, e1, if_false, ite_self]
      exact hkp i k (fun q _ => ⟨(a3 q).1, (a3 q).2.2⟩)
  · have hlen := cNds_length U
    have htk : (cNds U).take (U.length * 5) = cNds U := take_len hlen
    simp (disch := omega) only [go_sem, ↓IntWalk.iteOmega, IntWalk.toNatUp, Nat.reduceEqDiff, Nat.reduceAdd, Nat.reduceMul, Nat.reduceSub, Nat.reduceLT, Nat.reduceLeDiff, Int.reduceToNat, Int.reduceLT, Int.reduceLE, Int.reduceEq, Int.reduceAdd, Int.reduceSub, Int.reduceMul, Int.toNat_natCast, reduceCtorEq, decide_true, decide_false, IntWalk.i64_in, IntWalk.u64_in, IntWalk.u8_in, nzOr, h1, h2, h3, h6, d0, d1, s0, s1, hv, hn, hX, i3, htk]
    refine ⟨hall, hK _ _ _ (by omega) ⟨by omega, by simp [upd_app, hkp, h1], by simp [upd_app, hkp, h2], upd_same _ _ _, h4, h5⟩ ⟨?_, .inl ⟨rfl, rfl⟩⟩ ?_⟩
    · exact .inr ⟨i, (nx, 14), i1, by omega, by rw [List.length_append, List.length_singleton], by simp [upd_app, cNds_app, cNds_one]⟩
    · intro i' k hi a1 a2 a3
      have e1 : ¬ i' = nx := by omega
      have e4 : (i', k) ≠ (i, 14) := fun e => (a3 (by cases e; omega)).2.1 (by cases e; rfl)
      rw [upd_off a1, upd_off a1, upd_off e4]
      simp only [upd_app, e1, if_false, ite_self]
      exact hkp i' k (fun q _ => ⟨(a3 q).1, (a3 q).2.2⟩)
end Go.Proofs.YtmcbfbpdfbcakaaDoor.A
/- Expressions read: a class. -/
namespace Go.Proofs.YtmcbfbpdfbcakaaDoor.A
open Go
set_option maxRecDepth 20000
def nzCls : Nat → Option (List (Nat × Nat))
  | _ => none
theorem lookCls (X) : lookedAt (EX md0 X) nzCls 1 Tryd.f36 = true := by kernel_rfl
noncomputable def cCls (args : List AV) (H : AH) : Option (AV × AH) := if args.length = 1 then runP (EX md0 XIx) noR 300 nzCls Tryd.f36 args H else none
theorem cCls_ok (args H v H') (h : cCls args H = some (v, H')) : OkR Tryd.prog 36 args H v H' := by
  unfold cCls at h
  split at h
  · rename_i hn
    exact okR_run (E := EX md0 XIx) XIx_ok (noR_ok Tryd.prog).1 (noR_ok Tryd.prog).2 mixed Tryd.func36 (by rw [hn]; exact lookCls _) h
  · cases h
def orN (x i : Int) : Int := orI .i64 x (IntKind.i64.wrap (1 * 2 ^ min i.toNat 64))
theorem orN_in {x i : Int} (h0 : 0 ≤ x) (h1 : x ≤ 31) (h2 : 0 ≤ i) (h3 : i ≤ 4) : 0 ≤ orN x i ∧ orN x i ≤ 31 := by
  have key : ∀ (a : Fin 32) (b : Fin 5), 0 ≤ orN (a.1 : Int) (b.1 : Int) ∧ orN (a.1 : Int) (b.1 : Int) ≤ 31 := by decide +kernel
  have := key ⟨x.toNat, by omega⟩ ⟨i.toNat, by omega⟩
  simp only [Int.toNat_of_nonneg h0, Int.toNat_of_nonneg h2] at this
  exact this
def classF (s : List UInt8) : Nat → Int → Int → Int × Bool × Int
  | 0, a, _ => (0, false, a)
  | m + 1, a, out => if signN (byteN s a) < 0 then (out, decide (0 < out) && decide (byteN s a = 93), a) else classF s m (a + 1) (orN out (signN (byteN s a)))
theorem signN_lt (c) : signN c ≤ 4 := by unfold signN; repeat' split; all_goals omega
theorem signN_ge (c) : -1 ≤ signN c := by unfold signN; repeat' split; all_goals omega
theorem Stk.at {o : Ob} {nx nx' : Nat} {s at_ at' g d pre vU vJ post} (h : Stk o nx s at_ g d pre vU vJ post) (hn : nx ≤ nx') : Stk (upd o (2, 23) (.row ⟨63, 1, (2, 23), false, true, [.str s, .int .i64 at', .ref (2, 21) g 0 (d + 1)]⟩)) nx' s at' g d pre vU vJ post :=
  ⟨by have := h.lt; omega, by simp [upd_app, h.cell], upd_same _ _ _, by simp [upd_app, h.lev], h.len, h.le⟩
theorem cls_call {o : Ob} {nx : Nat} {s g d pre vU vJ post} {at_ : Int} {K : AV × AH → Prop} (h : Stk o nx s at_ g d pre vU vJ post) (ha : 0 ≤ at_) (ha' : at_ ≤ s.length) (hs : s.length ≤ 200)
    (hK : ∀ o' nx', nx ≤ nx' → Stk o' nx' s (classF s (s.length - at_.toNat) at_ 0).2.2 g d pre vU vJ post → (∀ t, t ≠ (2, 23) → t.1 < nx → o' t = o t) → K (.tup [.int .i64 (classF s (s.length - at_.toNat) at_ 0).1, .bool (classF s (s.length - at_.toNat) at_ 0).2.1], ⟨o', nx'⟩)) :
    wO (Option.map (fun p => freezeR false p.1 p.2) (cCls [parP] ⟨o, nx⟩)) K := by
  refine runP_call' (fn := Tryd.f36) (c := Tryd.f36.body.getD .skip) rfl ?_
  simp only [Tryd.f36, Option.getD_some]
  simp (disch := omega) only [go_sem, ↓IntWalk.iteOmega, IntWalk.toNatUp, Nat.reduceEqDiff, Nat.reduceAdd, Nat.reduceMul, Nat.reduceSub, Nat.reduceLT, Nat.reduceLeDiff, Int.reduceToNat, Int.reduceLT, Int.reduceLE, Int.reduceEq, Int.reduceAdd, Int.reduceSub, Int.reduceMul, Int.toNat_natCast, reduceCtorEq, decide_true, decide_false, IntWalk.i64_in, IntWalk.u64_in, IntWalk.u8_in, nzCls]
  generalize hR : classF s (s.length - at_.toNat) at_ 0 = R at hK
  refine WP_loop (fun m a o1 nx1 => ∃ (x out : Int), at_ ≤ x ∧ x ≤ s.length ∧ m = s.length - x.toNat ∧ nx ≤ nx1 ∧ a 0 = parP ∧ a 4 = .int .i64 out ∧ 0 ≤ out ∧ out ≤ 31 ∧ Stk o1 nx1 s x g d pre vU vJ post ∧ (∀ t, t ≠ (2, 23) → t.1 < nx → o1 t = o t) ∧ classF s (s.length - x.toNat) x out = R) (s.length - at_.toNat) ?_ ?_ ?_
  · omega
  · exact ⟨at_, 0, by omega, ha', rfl, by omega, rfl, rfl, by omega, by omega, h.keep (by omega) rfl rfl rfl, fun _ _ _ => rfl, hR⟩
  · rintro m a o1 nx1 ⟨x, out, x1, x2, rfl, hnx, a0, a4, o1', o2', hS, hkp, hR'⟩
    have h2 := hS.par
    by_cases hlt : x < s.length
    · obtain ⟨c, hc, hbt⟩ := byte_at (a := x) (by omega) (by omega : ¬ (s.length : Int) ≤ x)
      have hx := XIx_ix c
      unfold signs5 at hx
      obtain ⟨m', hm'⟩ : ∃ m', s.length - x.toNat = m' + 1 := ⟨s.length - x.toNat - 1, by omega⟩
      rw [hm', classF, hbt] at hR'
      by_cases hs1 : signN c.toNat < 0
      · rw [if_pos hs1] at hR'
        by_cases hs2 : 0 < out
        · simp (disch := omega) only [go_sem, ↓IntWalk.iteOmega, IntWalk.toNatUp, Nat.reduceEqDiff, Nat.reduceAdd, Nat.reduceMul, Nat.reduceSub, Nat.reduceLT, Nat.reduceLeDiff, Int.reduceToNat, Int.reduceLT, Int.reduceLE, Int.reduceEq, Int.reduceAdd, Int.reduceSub, Int.reduceMul, Int.toNat_natCast, reduceCtorEq, decide_true, decide_false, IntWalk.i64_in, IntWalk.u64_in, IntWalk.u8_in, nzCls, a0, a4, h2, hc, hx, hs1, hs2]
          subst hR'
          have := hK o1 (nx1 + 1 + 1 + 1 + 1) (by omega) (hS.keep (by omega) rfl rfl rfl) hkp
          simpa only [hs2, decide_true, Bool.true_and] using this
        · simp (disch := omega) only [go_sem, ↓IntWalk.iteOmega, IntWalk.toNatUp, Nat.reduceEqDiff, Nat.reduceAdd, Nat.reduceMul, Nat.reduceSub, Nat.reduceLT, Nat.reduceLeDiff, Int.reduceToNat, Int.reduceLT, Int.reduceLE, Int.reduceEq, Int.reduceAdd, Int.reduceSub, Int.reduceMul, Int.toNat_natCast, reduceCtorEq, decide_true, decide_false, IntWalk.i64_in, IntWalk.u64_in, IntWalk.u8_in, nzCls, a0, a4, h2, hc, hx, hs1, hs2]
          subst hR'
          have := hK o1 (nx1 + 1 + 1 + 1 + 1) (by omega) (hS.keep (by omega) rfl rfl rfl) hkp
          simpa only [hs2, decide_false, Bool.false_and] using this
      · rw [if_neg hs1] at hR'
        have hlt4 := signN_lt c.toNat
        have hin := orN_in o1' o2' (by omega : 0 ≤ signN c.toNat) hlt4
        simp (disch := omega) only [go_sem, ↓IntWalk.iteOmega, IntWalk.toNatUp, Nat.reduceEqDiff, Nat.reduceAdd, Nat.reduceMul, Nat.reduceSub, Nat.reduceLT, Nat.reduceLeDiff, Int.reduceToNat, Int.reduceLT, Int.reduceLE, Int.reduceEq, Int.reduceAdd, Int.reduceSub, Int.reduceMul, Int.toNat_natCast, reduceCtorEq, decide_true, decide_false, IntWalk.i64_in, IntWalk.u64_in, IntWalk.u8_in, nzCls, a0, a4, h2, hc, hx, hs1]
        refine ⟨_, ?_, x + 1, _, by omega, by omega, rfl, by omega, rfl, hin.1, hin.2, hS.at (by omega), ?_, ?_⟩
        · omega
        · intro t e1 e2
          rw [upd_off e1]
          exact hkp t e1 e2
        · have : s.length - (x + 1).toNat = m' := by omega
          rw [this]
          exact hR'
    · simp (disch := omega) only [go_sem, ↓IntWalk.iteOmega, IntWalk.toNatUp, Nat.reduceEqDiff, Nat.reduceAdd, Nat.reduceMul, Nat.reduceSub, Nat.reduceLT, Nat.reduceLeDiff, Int.reduceToNat, Int.reduceLT, Int.reduceLE, Int.reduceEq, Int.reduceAdd, Int.reduceSub, Int.reduceMul, Int.toNat_natCast, reduceCtorEq, decide_true, decide_false, IntWalk.i64_in, IntWalk.u64_in, IntWalk.u8_in, nzCls, a0, a4, h2]
      have : s.length - x.toNat = 0 := by omega
      rw [this, classF] at hR'
      subst hR'
      exact hK o1 (nx1 + 1 + 1) (by omega) (hS.keep (by omega) rfl rfl rfl) hkp
end Go.Proofs.YtmcbfbpdfbcakaaDoor.A
