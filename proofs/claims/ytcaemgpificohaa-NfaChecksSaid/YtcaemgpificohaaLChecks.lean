/- NfaChecks answers true for whatever it is called with; the input reads as it did. -/
import Derived.Test.YtcaemgpificohaaLM
import Derived.Test.YtcaemgpificohaaC8
set_option linter.unusedVariables false
set_option linter.unusedSimpArgs false
set_option linter.unnecessarySimpa false
namespace Go.Proofs.Ytcaemgpificohaa.A
open Go
set_option maxRecDepth 20000
/-! ### a machine that came in -/
theorem shaped_fields {P : Program} {d : Nat} {t : TypeId} {fs : Array Field} (hu : P.underlying t = some (.struct fs)) {xs : List AV} (h : Shaped P d t xs) : ∃ (d' : Nat) (parts : List (List AV)), xs = parts.flatten ∧ parts.length = fs.toList.length ∧ ∀ (i : Nat) (f : Field) (p : List AV), fs.toList[i]? = some f → parts[i]? = some p → Shaped P d' f.type p := by
  cases d with
  | zero => exact h.elim
  | succ d =>
    unfold Shaped at h
    rw [hu] at h
    obtain ⟨parts, h1, h2, h3⟩ := h
    exact ⟨d, parts, h1, by simpa using h2, fun i f p hf hp => h3 i f p (by simpa using hf) hp⟩
theorem shaped_three {P : Program} {d : Nat} {t i : TypeId} {fs : Array Field} (hu : P.underlying t = some (.struct fs)) (hf : fs.toList.map (·.type) = [i, i, i]) (hi : P.underlying i = some (.int .i64)) {xs : List AV} (h : Shaped P d t xs) : ∃ a b c, xs = [.int .i64 a, .int .i64 b, .int .i64 c] := by
  obtain ⟨d', parts, rfl, hl, hp⟩ := shaped_fields hu h
  have hl3 : fs.toList.length = 3 := by have := congrArg List.length hf; simpa using this
  match hfs : fs.toList, hl3 with
  | [f1, f2, f3], _ =>
    rw [hfs] at hl hp hf
    simp only [List.map_cons, List.map_nil, List.cons.injEq, and_true] at hf
    obtain ⟨e1, e2, e3⟩ := hf
    match parts, hl with
    | [p1, p2, p3], _ =>
      obtain ⟨a, rfl⟩ := shaped_int hi (e1 ▸ hp 0 f1 p1 rfl rfl)
      obtain ⟨b, rfl⟩ := shaped_int hi (e2 ▸ hp 1 f2 p2 rfl rfl)
      obtain ⟨c, rfl⟩ := shaped_int hi (e3 ▸ hp 2 f3 p3 rfl rfl)
      exact ⟨a, b, c, rfl⟩
theorem shaped_two {P : Program} {d : Nat} {t i : TypeId} (hu : P.underlying t = some (.array 2 i)) (hi : P.underlying i = some (.int .i64)) {xs : List AV} (h : Shaped P d t xs) : ∃ a b, xs = [.int .i64 a, .int .i64 b] := by
  cases d with
  | zero => exact h.elim
  | succ d =>
    unfold Shaped at h
    rw [hu] at h
    obtain ⟨parts, rfl, hl, hp⟩ := h
    match parts, hl with
    | [p1, p2], _ =>
      obtain ⟨a, rfl⟩ := shaped_int hi (hp p1 (by simp))
      obtain ⟨b, rfl⟩ := shaped_int hi (hp p2 (by simp))
      exact ⟨a, b, rfl⟩
theorem shaped_slice {P : Program} {d : Nat} {t e : TypeId} (hu : P.underlying t = some (.slice e)) {xs : List AV} (h : Shaped P d t xs) : ∃ (d' : Nat) (parts : List (List AV)), xs = [.sl parts.length parts.flatten] ∧ parts.length ≤ maxLen ∧ ∀ p ∈ parts, Shaped P d' e p := by
  cases d with
  | zero => exact h.elim
  | succ d =>
    unfold Shaped at h
    rw [hu] at h
    obtain ⟨parts, h1, h2, h3⟩ := h
    exact ⟨d, parts, h1, h2, h3⟩
theorem parts_S : ∀ {parts : List (List AV)}, (∀ p ∈ parts, ∃ a b c, p = [.int .i64 a, .int .i64 b, .int .i64 c]) → ∃ ss : List (Int × Int × Int), ss.length = parts.length ∧ parts.flatten = cS ss
  | [], _ => ⟨[], rfl, rfl⟩
  | p :: parts, h => by
    obtain ⟨a, b, c, rfl⟩ := h p (List.mem_cons_self ..)
    obtain ⟨ss, h1, h2⟩ := parts_S (fun q hq => h q (List.mem_cons_of_mem _ hq))
    exact ⟨(a, b, c) :: ss, by simp [h1], by simp [cS, h2]⟩
theorem parts_P : ∀ {parts : List (List AV)}, (∀ p ∈ parts, ∃ a b, p = [.int .i64 a, .int .i64 b]) → ∃ ss : List (Int × Int), ss.length = parts.length ∧ parts.flatten = cP ss
  | [], _ => ⟨[], rfl, rfl⟩
  | p :: parts, h => by
    obtain ⟨a, b, rfl⟩ := h p (List.mem_cons_self ..)
    obtain ⟨ss, h1, h2⟩ := parts_P (fun q hq => h q (List.mem_cons_of_mem _ hq))
    exact ⟨(a, b) :: ss, by simp [h1], by simp [cP, h2]⟩
noncomputable def fieldsOf (t : TypeId) : Array Field := match Try.prog.underlying t with | some (.struct fs) => fs | _ => #[]
theorem arg_nfa {x : AV} (h : ArgOf Try.prog 28 x) : ∃ (N S F : Int) (ss : List (Int × Int × Int)) (fs : List (Int × Int)), x = nfaV N S F ss fs := by
  have hu : Try.prog.underlying 28 = some (.struct (fieldsOf 28)) := by kernel_rfl
  have hi : Try.prog.underlying 3 = some (.int .i64) := by kernel_rfl
  have hus : Try.prog.underlying 48 = some (.struct (fieldsOf 48)) := by kernel_rfl
  have hf : (fieldsOf 28).toList.map (·.type) = [3, 3, 3, 25, 26] := by kernel_rfl
  have hfs : (fieldsOf 48).toList.map (·.type) = [3, 3, 3] := by kernel_rfl
  have hsl : Try.prog.underlying 25 = some (.slice 48) := by kernel_rfl
  have hsp : Try.prog.underlying 26 = some (.slice 49) := by kernel_rfl
  have har : Try.prog.underlying 49 = some (.array 2 3) := by kernel_rfl
  unfold ArgOf at h
  rw [hu] at h
  obtain ⟨d, xs, rfl, h⟩ := h
  obtain ⟨d', parts, rfl, hl, hp⟩ := shaped_fields hu h
  generalize fieldsOf 28 = fl at *
  have hl5 : fl.toList.length = 5 := by have := congrArg List.length hf; simpa using this
  match hfl : fl.toList, hl5 with
  | [f1, f2, f3, f4, f5], _ =>
    rw [hfl] at hl hp hf
    simp only [List.map_cons, List.map_nil, List.cons.injEq, and_true] at hf
    obtain ⟨e1, e2, e3, e4, e5⟩ := hf
    match parts, hl with
    | [p1, p2, p3, p4, p5], _ =>
      obtain ⟨a, rfl⟩ := shaped_int hi (e1 ▸ hp 0 f1 p1 rfl rfl)
      obtain ⟨b, rfl⟩ := shaped_int hi (e2 ▸ hp 1 f2 p2 rfl rfl)
      obtain ⟨c, rfl⟩ := shaped_int hi (e3 ▸ hp 2 f3 p3 rfl rfl)
      obtain ⟨d4, q4, rfl, _, h4⟩ := shaped_slice hsl (e4 ▸ hp 3 f4 p4 rfl rfl)
      obtain ⟨d5, q5, rfl, _, h5⟩ := shaped_slice hsp (e5 ▸ hp 4 f5 p5 rfl rfl)
      obtain ⟨ss, s1, s2⟩ := parts_S (fun p hp => shaped_three hus hfs hi (h4 p hp))
      obtain ⟨fs, t1, t2⟩ := parts_P (fun p hp => shaped_two har hi (h5 p hp))
      exact ⟨a, b, c, ss, fs, by rw [nfaV, s1, s2.symm, t1, t2.symm]; rfl⟩
/-! ### the table -/
def RCheck (args : List AV) (r : AV) : Prop := ∃ (N S F : Int) (ss : List (Int × Int × Int)) (fs : List (Int × Int)), args = [nfaV N S F ss fs] ∧ r = .bool (chk N S F ss fs)
theorem RCheck_fn : Fun1 RCheck := by
  rintro args r r' ⟨N, S, F, ss, fs, rfl, rfl⟩ ⟨N', S', F', ss', fs', h, rfl⟩
  simp only [List.cons.injEq, and_true] at h
  obtain ⟨h1, h2, h3, h4, h5⟩ := nfaV_inj h
  rw [h1, h2, h3, h4, h5]
theorem RCheck_nfa (args r) (h : RCheck args r) : Ok Try.prog 18 args r := by obtain ⟨N, S, F, ss, fs, rfl, rfl⟩ := h; exact nfaCheck_ok N S F ss fs
theorem RCheck_ref (args r) (h : RCheck args r) : Ok Try.prog 24 args r := by obtain ⟨N, S, F, ss, fs, rfl, rfl⟩ := h; exact refCheck_ok N S F ss fs
def RFew (args : List AV) (r : AV) : Prop := ∃ (N S F : Int) (ss : List (Int × Int × Int)) (fs : List (Int × Int)), args = [nfaV N S F ss fs] ∧ r = .bool (decide (ss.length ≤ 60 ∧ fs.length ≤ 60))
theorem RFew_fn : Fun1 RFew := by
  rintro args r r' ⟨N, S, F, ss, fs, rfl, rfl⟩ ⟨N', S', F', ss', fs', h, rfl⟩
  simp only [List.cons.injEq, and_true] at h
  obtain ⟨h1, h2, h3, h4, h5⟩ := nfaV_inj h
  rw [h4, h5]
theorem RFew_ok (args r) (h : RFew args r) : Ok Try.prog 22 args r := by obtain ⟨N, S, F, ss, fs, rfl, rfl⟩ := h; exact few_ok N S F ss fs
noncomputable def XCk : FuncId → List AV → Option AV := tabLook [(18, tRel RCheck), (24, tRel RCheck), (22, tRel RFew), (12, tRel RKnown), (25, tRel RW)]
theorem XCk_ok : CPSound Try.prog XCk := tab_cons (tab_cons (tab_cons (tab_cons (tab_cons (tab_nil _) (tRel_ok within0_ok)) (tRel_ok RKnown_ok)) (tRel_ok RFew_ok)) (tRel_ok RCheck_ref)) (tRel_ok RCheck_nfa)
theorem XCk_nc (N S F ss fs) : XCk 18 [nfaV N S F ss fs] = some (.bool (chk N S F ss fs)) := tRel_eq (R := RCheck) RCheck_fn ⟨_, _, _, _, _, rfl, rfl⟩
theorem XCk_rc (N S F ss fs) : XCk 24 [nfaV N S F ss fs] = some (.bool (chk N S F ss fs)) := tRel_eq (R := RCheck) RCheck_fn ⟨_, _, _, _, _, rfl, rfl⟩
theorem XCk_few (N S F ss fs) : XCk 22 [nfaV N S F ss fs] = some (.bool (decide (ss.length ≤ 60 ∧ fs.length ≤ 60))) := tRel_eq (R := RFew) RFew_fn ⟨_, _, _, _, _, rfl, rfl⟩
theorem XCk_known : XCk 12 [] = some (.bool true) := tRel_eq (R := RKnown) RKnown_fn ⟨rfl, rfl⟩
theorem XCk_within (a n : Int) (h1 : 0 < n) (h2 : n ≤ 1000000) : XCk 25 [.int .i64 a, .int .i64 n] = some (.int .i64 (a % n)) := rw_eq h1 h2
/-- A machine that Make makes is allowed. -/
theorem chk_make (size : Int) (ns : List Int) (start end_ : Int) : chk (sizeN size) (start % sizeN size) (end_ % sizeN size) (stepsOf (sizeN size) (ns.take 14)) (freesOf (sizeN size) (ns.take 14)) = true := by
  have hw := make_wf size ns start end_
  obtain ⟨h1, h2⟩ := sizeN_in size
  have hsl := stepsOf_le (sizeN size) (ns.take 14)
  have hfl := freesOf_le (sizeN size) (ns.take 14)
  rw [List.length_take] at hsl hfl
  unfold chk
  rw [decide_eq_true ⟨by omega, by omega, by omega, by omega, hw.s, hw.f⟩, Bool.true_and, Bool.and_eq_true, List.all_eq_true, List.all_eq_true]
  refine ⟨fun p hp => ?_, fun p hp => ?_⟩
  · obtain ⟨k, _, rfl⟩ := List.mem_map.1 hp
    have h := hw.steps _ hp
    have e1 := Int.emod_nonneg (IntKind.i64.wrap (k.tdiv 170)) (show (31 : Int) ≠ 0 by decide)
    have e2 := Int.emod_lt_of_pos (IntKind.i64.wrap (k.tdiv 170)) (show (0 : Int) < 31 by decide)
    refine decide_eq_true ⟨h.1, h.2, ?_⟩
    simp only [stepOf']
    omega
  · exact decide_eq_true (hw.free _ hp)
def nzChecks : Nat → Option (List (Nat × Nat))
  | 16 => some [(1, 9)]
  | 18 => some [(1, 6)]
  | 20 => some [(1, 9)]
  | 22 => some [(1, 9)]
  | _ => none
theorem md1_nc : md1 18 = .ext true := rfl
theorem md1_rc : md1 24 = .ext true := rfl
theorem md1_few : md1 22 = .ext true := rfl
theorem mdk_make : md1 23 = .raw false := rfl
theorem mdk_known : md1 12 = .ext true := rfl
theorem mdk_within : md1 25 = .ext true := rfl
theorem lookChecks : lookedAt (EX md1 XCk) nzChecks 6 Try.f5 = true := by kernel_rfl
set_option maxHeartbeats 1000000 in
theorem checks_ok (N0 S0 F0 : Int) (ss0 : List (Int × Int × Int)) (fs0 : List (Int × Int)) (size : Int) (ns : List Int) (at_ which v : Int) : Ok Try.prog 5 [nfaV N0 S0 F0 ss0 fs0, .int .i64 size, slI ns, .int .i64 at_, .int .i64 which, .int .i64 v] (.bool true) := by
  refine ok_of_WP (E := EX md1 XCk) (cr := crM) XCk_ok crM_ok mixed (k := 10) Try.func5 lookChecks rfl ?_
  have hkn := XCk_known
  have hwi := XCk_within
  have hnc := XCk_nc
  have hrc := XCk_rc
  have hfw := XCk_few N0 S0 F0 ss0 fs0
  have hN := sizeN_in size
  simp only [Try.f5, Option.getD_some]
  by_cases hf : ss0.length ≤ 60 ∧ fs0.length ≤ 60
  · rw [decide_eq_true hf] at hfw
    simp (disch := omega) only [go_sem, ↓IntWalk.iteOmega, IntWalk.toNatUp, Nat.reduceEqDiff, Nat.reduceAdd, Nat.reduceMul, Nat.reduceSub, Nat.reduceLT, Nat.reduceLeDiff, Int.reduceToNat, Int.reduceLT, Int.reduceLE, Int.reduceEq, Int.reduceAdd, Int.reduceSub, Int.reduceMul, Int.toNat_natCast, reduceCtorEq, decide_true, decide_false, IntWalk.i64_in, IntWalk.u64_in, IntWalk.u8_in, hkn, hfw, hnc, hrc, mdk_make, mdk_known, mdk_within, md1_few, md1_nc, md1_rc]
    refine make_call _ _ _ _ fun vS vF o1 nx1 hM => ?_
    have h1 := hM.s.ok
    have h2 := hM.f.ok
    have h3 := hM.le
    have hmk := chk_make size ns at_ (IntKind.i64.wrap (at_.tdiv 7))
    have hm7 := Int.emod_nonneg which (show (7 : Int) ≠ 0 by decide)
    have hm8 := Int.emod_lt_of_pos which (show (0 : Int) < 7 by decide)
    have hk06 := hM.keep 0 6 (by omega)
    have hkp := hM.keep
    obtain ⟨_, hS, hF, _, hls, hlf⟩ := hM
    have hsl := stepsOf_le (sizeN size) (ns.take 14)
    have hfl := freesOf_le (sizeN size) (ns.take 14)
    rw [List.length_take] at hsl hfl
    generalize sizeN size = N at *
    generalize at_ % (N : Int) = S at *
    generalize IntKind.i64.wrap (at_.tdiv 7) % (N : Int) = F at *
    generalize stepsOf N (ns.take 14) = ss at *
    generalize freesOf N (ns.take 14) = fs at *
    have vA1 : ∀ o' : Ob, (∀ i, o' (i, 77) = o1 (i, 77)) → view o' 11 vS = .sl ss.length (cS ss) := fun o' h => by have := (hS.keep (fun i _ => h i) (Nat.le_refl _)).view 10; rwa [view_cS] at this
    have vA2 : ∀ o' : Ob, (∀ i, o' (i, 57) = o1 (i, 57)) → view o' 11 vF = .sl fs.length (cP fs) := fun o' h => by have := (hF.keep (fun i _ => h i) (Nat.le_refl _)).view 10; rwa [view_cP] at this
    simp only [upd_app, if_true, Nat.reduceEqDiff, if_false] at hk06
    generalize hq : which % 7 = q at *
    have hq7 : q = 0 ∨ q = 1 ∨ q = 2 ∨ q = 3 ∨ q = 4 ∨ q = 5 ∨ q = 6 := by omega
    have hn1 : ∀ a b c : Int, XCk 18 [.agg [.int .i64 N, .int .i64 S, .int .i64 F, .sl 1 [.int .i64 a, .int .i64 b, .int .i64 c], .sl fs.length (cP fs)]] = some (.bool (chk N S F [(a, b, c)] fs)) := fun a b c => XCk_nc N S F [(a, b, c)] fs
    have hr1 : ∀ a b c : Int, XCk 24 [.agg [.int .i64 N, .int .i64 S, .int .i64 F, .sl 1 [.int .i64 a, .int .i64 b, .int .i64 c], .sl fs.length (cP fs)]] = some (.bool (chk N S F [(a, b, c)] fs)) := fun a b c => XCk_rc N S F [(a, b, c)] fs
    have hn2 : ∀ a b c : Int, XCk 18 [.agg [.int .i64 N, .int .i64 S, .int .i64 F, .sl (ss.length + 1) (cS ss ++ [.int .i64 a, .int .i64 b, .int .i64 c]), .sl fs.length (cP fs)]] = some (.bool (chk N S F (ss ++ [(a, b, c)]) fs)) := fun a b c => by
      have := XCk_nc N S F (ss ++ [(a, b, c)]) fs
      unfold nfaV at this
      rwa [show (ss ++ [(a, b, c)]).length = ss.length + 1 by simp, cS_app] at this
    have hr2 : ∀ a b c : Int, XCk 24 [.agg [.int .i64 N, .int .i64 S, .int .i64 F, .sl (ss.length + 1) (cS ss ++ [.int .i64 a, .int .i64 b, .int .i64 c]), .sl fs.length (cP fs)]] = some (.bool (chk N S F (ss ++ [(a, b, c)]) fs)) := fun a b c => by
      have := XCk_rc N S F (ss ++ [(a, b, c)]) fs
      unfold nfaV at this
      rwa [show (ss ++ [(a, b, c)]).length = ss.length + 1 by simp, cS_app] at this
    have ht2 : ∀ a b c : Int, (cS ss ++ [AV.int .i64 a, .int .i64 b, .int .i64 c]).take ((ss.length + 1) * 3) = cS ss ++ [AV.int .i64 a, .int .i64 b, .int .i64 c] := fun a b c => take_len (by rw [List.length_append, cS_length]; simp; omega)
    have hn3 : ∀ a b : Int, XCk 18 [.agg [.int .i64 N, .int .i64 S, .int .i64 F, .sl ss.length (cS ss), .sl 1 [.int .i64 a, .int .i64 b]]] = some (.bool (chk N S F ss [(a, b)])) := fun a b => XCk_nc N S F ss [(a, b)]
    have hr3 : ∀ a b : Int, XCk 24 [.agg [.int .i64 N, .int .i64 S, .int .i64 F, .sl ss.length (cS ss), .sl 1 [.int .i64 a, .int .i64 b]]] = some (.bool (chk N S F ss [(a, b)])) := fun a b => XCk_rc N S F ss [(a, b)]
    have hn4 : ∀ a b : Int, XCk 18 [.agg [.int .i64 N, .int .i64 S, .int .i64 F, .sl ss.length (cS ss), .sl (fs.length + 1) (cP fs ++ [.int .i64 a, .int .i64 b])]] = some (.bool (chk N S F ss (fs ++ [(a, b)]))) := fun a b => by
      have := XCk_nc N S F ss (fs ++ [(a, b)])
      unfold nfaV at this
      rwa [show (fs ++ [(a, b)]).length = fs.length + 1 by simp, cP_app] at this
    have hr4 : ∀ a b : Int, XCk 24 [.agg [.int .i64 N, .int .i64 S, .int .i64 F, .sl ss.length (cS ss), .sl (fs.length + 1) (cP fs ++ [.int .i64 a, .int .i64 b])]] = some (.bool (chk N S F ss (fs ++ [(a, b)]))) := fun a b => by
      have := XCk_rc N S F ss (fs ++ [(a, b)])
      unfold nfaV at this
      rwa [show (fs ++ [(a, b)]).length = fs.length + 1 by simp, cP_app] at this
    have ht4 : ∀ a b : Int, (cP fs ++ [AV.int .i64 a, .int .i64 b]).take ((fs.length + 1) * 2) = cP fs ++ [AV.int .i64 a, .int .i64 b] := fun a b => take_len (by rw [List.length_append, cP_length]; simp; omega)
    have hm5 := Int.emod_nonneg v (show (5 : Int) ≠ 0 by decide)
    have hm6 := Int.emod_lt_of_pos v (show (0 : Int) < 5 by decide)
    rcases hq7 with rfl | rfl | rfl | rfl | rfl | rfl | rfl
    · simp (disch := first | omega | (intro _; simp only [upd_app, Nat.reduceEqDiff, if_false])) only [go_sem, ↓IntWalk.iteOmega, IntWalk.toNatUp, Nat.reduceEqDiff, Nat.reduceAdd, Nat.reduceMul, Nat.reduceSub, Nat.reduceLT, Nat.reduceLeDiff, Int.reduceToNat, Int.reduceLT, Int.reduceLE, Int.reduceEq, Int.reduceAdd, Int.reduceSub, Int.reduceMul, Int.toNat_natCast, reduceCtorEq, decide_true, decide_false, IntWalk.i64_in, IntWalk.u64_in, IntWalk.u8_in, h1, h2, hkn, hfw, hnc, hrc, hk06, hwi, hmk, hq, vA1, vA2, mdk_within, md1_nc, md1_rc, nzChecks]
    · simp (disch := first | omega | (intro _; simp only [upd_app, Nat.reduceEqDiff, if_false])) only [go_sem, ↓IntWalk.iteOmega, IntWalk.toNatUp, Nat.reduceEqDiff, Nat.reduceAdd, Nat.reduceMul, Nat.reduceSub, Nat.reduceLT, Nat.reduceLeDiff, Int.reduceToNat, Int.reduceLT, Int.reduceLE, Int.reduceEq, Int.reduceAdd, Int.reduceSub, Int.reduceMul, Int.toNat_natCast, reduceCtorEq, decide_true, decide_false, IntWalk.i64_in, IntWalk.u64_in, IntWalk.u8_in, h1, h2, hkn, hfw, hnc, hrc, hk06, hwi, hmk, hq, vA1, vA2, mdk_within, md1_nc, md1_rc, nzChecks]
    · generalize hw : v % 5 = w at *
      have hw5 : w = 0 ∨ w = 1 ∨ w = 2 ∨ w = 3 ∨ w = 4 := by omega
      rcases hw5 with rfl | rfl | rfl | rfl | rfl
      · have hnc0 := XCk_nc 0 S F ss fs
        simp (disch := first | omega | (intro _; simp only [upd_app, Nat.reduceEqDiff, if_false])) only [go_sem, ↓IntWalk.iteOmega, IntWalk.toNatUp, Nat.reduceEqDiff, Nat.reduceAdd, Nat.reduceMul, Nat.reduceSub, Nat.reduceLT, Nat.reduceLeDiff, Int.reduceToNat, Int.reduceLT, Int.reduceLE, Int.reduceEq, Int.reduceAdd, Int.reduceSub, Int.reduceMul, Int.toNat_natCast, reduceCtorEq, decide_true, decide_false, IntWalk.i64_in, IntWalk.u64_in, IntWalk.u8_in, h1, h2, hkn, hfw, hnc, hrc, hk06, hwi, hmk, hq, vA1, vA2, mdk_within, md1_nc, md1_rc, nzChecks, hw]
      · simp (disch := first | omega | (intro _; simp only [upd_app, Nat.reduceEqDiff, if_false])) only [go_sem, ↓IntWalk.iteOmega, IntWalk.toNatUp, Nat.reduceEqDiff, Nat.reduceAdd, Nat.reduceMul, Nat.reduceSub, Nat.reduceLT, Nat.reduceLeDiff, Int.reduceToNat, Int.reduceLT, Int.reduceLE, Int.reduceEq, Int.reduceAdd, Int.reduceSub, Int.reduceMul, Int.toNat_natCast, reduceCtorEq, decide_true, decide_false, IntWalk.i64_in, IntWalk.u64_in, IntWalk.u8_in, h1, h2, hkn, hfw, hnc, hrc, hk06, hwi, hmk, hq, vA1, vA2, mdk_within, md1_nc, md1_rc, nzChecks, hw]
      · simp (disch := first | omega | (intro _; simp only [upd_app, Nat.reduceEqDiff, if_false])) only [go_sem, ↓IntWalk.iteOmega, IntWalk.toNatUp, Nat.reduceEqDiff, Nat.reduceAdd, Nat.reduceMul, Nat.reduceSub, Nat.reduceLT, Nat.reduceLeDiff, Int.reduceToNat, Int.reduceLT, Int.reduceLE, Int.reduceEq, Int.reduceAdd, Int.reduceSub, Int.reduceMul, Int.toNat_natCast, reduceCtorEq, decide_true, decide_false, IntWalk.i64_in, IntWalk.u64_in, IntWalk.u8_in, h1, h2, hkn, hfw, hnc, hrc, hk06, hwi, hmk, hq, vA1, vA2, mdk_within, md1_nc, md1_rc, nzChecks, hw]
      · simp (disch := first | omega | (intro _; simp only [upd_app, Nat.reduceEqDiff, if_false])) only [go_sem, ↓IntWalk.iteOmega, IntWalk.toNatUp, Nat.reduceEqDiff, Nat.reduceAdd, Nat.reduceMul, Nat.reduceSub, Nat.reduceLT, Nat.reduceLeDiff, Int.reduceToNat, Int.reduceLT, Int.reduceLE, Int.reduceEq, Int.reduceAdd, Int.reduceSub, Int.reduceMul, Int.toNat_natCast, reduceCtorEq, decide_true, decide_false, IntWalk.i64_in, IntWalk.u64_in, IntWalk.u8_in, h1, h2, hkn, hfw, hnc, hrc, hk06, hwi, hmk, hq, vA1, vA2, mdk_within, md1_nc, md1_rc, nzChecks, hw]
      · simp (disch := first | omega | (intro _; simp only [upd_app, Nat.reduceEqDiff, if_false])) only [go_sem, ↓IntWalk.iteOmega, IntWalk.toNatUp, Nat.reduceEqDiff, Nat.reduceAdd, Nat.reduceMul, Nat.reduceSub, Nat.reduceLT, Nat.reduceLeDiff, Int.reduceToNat, Int.reduceLT, Int.reduceLE, Int.reduceEq, Int.reduceAdd, Int.reduceSub, Int.reduceMul, Int.toNat_natCast, reduceCtorEq, decide_true, decide_false, IntWalk.i64_in, IntWalk.u64_in, IntWalk.u8_in, h1, h2, hkn, hfw, hnc, hrc, hk06, hwi, hmk, hq, vA1, vA2, mdk_within, md1_nc, md1_rc, nzChecks, hw]
    · rcases hS with ⟨rfl, e2, e3⟩ | ⟨i1, g1, rfl, hi1, hrow, hlen⟩
      · simp (disch := first | omega | (intro _; simp only [upd_app, Nat.reduceEqDiff, if_false])) only [go_sem, ↓IntWalk.iteOmega, IntWalk.toNatUp, Nat.reduceEqDiff, Nat.reduceAdd, Nat.reduceMul, Nat.reduceSub, Nat.reduceLT, Nat.reduceLeDiff, Int.reduceToNat, Int.reduceLT, Int.reduceLE, Int.reduceEq, Int.reduceAdd, Int.reduceSub, Int.reduceMul, Int.toNat_natCast, reduceCtorEq, decide_true, decide_false, IntWalk.i64_in, IntWalk.u64_in, IntWalk.u8_in, h1, h2, hkn, hfw, hnc, hrc, hk06, hwi, hmk, hq, vA1, vA2, mdk_within, md1_nc, md1_rc, nzChecks, hn1, hr1]
      · have hi1' := hls i1 _ _ rfl
        simp (disch := first | omega | (intro _; simp only [upd_app, Nat.reduceEqDiff, if_false])) only [go_sem, ↓IntWalk.iteOmega, IntWalk.toNatUp, Nat.reduceEqDiff, Nat.reduceAdd, Nat.reduceMul, Nat.reduceSub, Nat.reduceLT, Nat.reduceLeDiff, Int.reduceToNat, Int.reduceLT, Int.reduceLE, Int.reduceEq, Int.reduceAdd, Int.reduceSub, Int.reduceMul, Int.toNat_natCast, reduceCtorEq, decide_true, decide_false, IntWalk.i64_in, IntWalk.u64_in, IntWalk.u8_in, h1, h2, hkn, hfw, hnc, hrc, hk06, hwi, hmk, hq, vA1, vA2, mdk_within, md1_nc, md1_rc, nzChecks, hn2, hr2, ht2, hrow]
    · rcases hS with ⟨rfl, e2, e3⟩ | ⟨i1, g1, rfl, hi1, hrow, hlen⟩
      · simp (disch := first | omega | (intro _; simp only [upd_app, Nat.reduceEqDiff, if_false])) only [go_sem, ↓IntWalk.iteOmega, IntWalk.toNatUp, Nat.reduceEqDiff, Nat.reduceAdd, Nat.reduceMul, Nat.reduceSub, Nat.reduceLT, Nat.reduceLeDiff, Int.reduceToNat, Int.reduceLT, Int.reduceLE, Int.reduceEq, Int.reduceAdd, Int.reduceSub, Int.reduceMul, Int.toNat_natCast, reduceCtorEq, decide_true, decide_false, IntWalk.i64_in, IntWalk.u64_in, IntWalk.u8_in, h1, h2, hkn, hfw, hnc, hrc, hk06, hwi, hmk, hq, vA1, vA2, mdk_within, md1_nc, md1_rc, nzChecks, hn1, hr1]
      · have hi1' := hls i1 _ _ rfl
        simp (disch := first | omega | (intro _; simp only [upd_app, Nat.reduceEqDiff, if_false])) only [go_sem, ↓IntWalk.iteOmega, IntWalk.toNatUp, Nat.reduceEqDiff, Nat.reduceAdd, Nat.reduceMul, Nat.reduceSub, Nat.reduceLT, Nat.reduceLeDiff, Int.reduceToNat, Int.reduceLT, Int.reduceLE, Int.reduceEq, Int.reduceAdd, Int.reduceSub, Int.reduceMul, Int.toNat_natCast, reduceCtorEq, decide_true, decide_false, IntWalk.i64_in, IntWalk.u64_in, IntWalk.u8_in, h1, h2, hkn, hfw, hnc, hrc, hk06, hwi, hmk, hq, vA1, vA2, mdk_within, md1_nc, md1_rc, nzChecks, hn2, hr2, ht2, hrow]
    · rcases hF with ⟨rfl, e2, e3⟩ | ⟨i1, g1, rfl, hi1, hrow, hlen⟩
      · simp (disch := first | omega | (intro _; simp only [upd_app, Nat.reduceEqDiff, if_false])) only [go_sem, ↓IntWalk.iteOmega, IntWalk.toNatUp, Nat.reduceEqDiff, Nat.reduceAdd, Nat.reduceMul, Nat.reduceSub, Nat.reduceLT, Nat.reduceLeDiff, Int.reduceToNat, Int.reduceLT, Int.reduceLE, Int.reduceEq, Int.reduceAdd, Int.reduceSub, Int.reduceMul, Int.toNat_natCast, reduceCtorEq, decide_true, decide_false, IntWalk.i64_in, IntWalk.u64_in, IntWalk.u8_in, h1, h2, hkn, hfw, hnc, hrc, hk06, hwi, hmk, hq, vA1, vA2, mdk_within, md1_nc, md1_rc, nzChecks, hn3, hr3]
      · have hi1' := hlf i1 _ _ rfl
        simp (disch := first | omega | (intro _; simp only [upd_app, Nat.reduceEqDiff, if_false])) only [go_sem, ↓IntWalk.iteOmega, IntWalk.toNatUp, Nat.reduceEqDiff, Nat.reduceAdd, Nat.reduceMul, Nat.reduceSub, Nat.reduceLT, Nat.reduceLeDiff, Int.reduceToNat, Int.reduceLT, Int.reduceLE, Int.reduceEq, Int.reduceAdd, Int.reduceSub, Int.reduceMul, Int.toNat_natCast, reduceCtorEq, decide_true, decide_false, IntWalk.i64_in, IntWalk.u64_in, IntWalk.u8_in, h1, h2, hkn, hfw, hnc, hrc, hk06, hwi, hmk, hq, vA1, vA2, mdk_within, md1_nc, md1_rc, nzChecks, hn4, hr4, ht4, hrow]
    · rcases hF with ⟨rfl, e2, e3⟩ | ⟨i1, g1, rfl, hi1, hrow, hlen⟩
      · simp (disch := first | omega | (intro _; simp only [upd_app, Nat.reduceEqDiff, if_false])) only [go_sem, ↓IntWalk.iteOmega, IntWalk.toNatUp, Nat.reduceEqDiff, Nat.reduceAdd, Nat.reduceMul, Nat.reduceSub, Nat.reduceLT, Nat.reduceLeDiff, Int.reduceToNat, Int.reduceLT, Int.reduceLE, Int.reduceEq, Int.reduceAdd, Int.reduceSub, Int.reduceMul, Int.toNat_natCast, reduceCtorEq, decide_true, decide_false, IntWalk.i64_in, IntWalk.u64_in, IntWalk.u8_in, h1, h2, hkn, hfw, hnc, hrc, hk06, hwi, hmk, hq, vA1, vA2, mdk_within, md1_nc, md1_rc, nzChecks, hn3, hr3]
      · have hi1' := hlf i1 _ _ rfl
        simp (disch := first | omega | (intro _; simp only [upd_app, Nat.reduceEqDiff, if_false])) only [go_sem, ↓IntWalk.iteOmega, IntWalk.toNatUp, Nat.reduceEqDiff, Nat.reduceAdd, Nat.reduceMul, Nat.reduceSub, Nat.reduceLT, Nat.reduceLeDiff, Int.reduceToNat, Int.reduceLT, Int.reduceLE, Int.reduceEq, Int.reduceAdd, Int.reduceSub, Int.reduceMul, Int.toNat_natCast, reduceCtorEq, decide_true, decide_false, IntWalk.i64_in, IntWalk.u64_in, IntWalk.u8_in, h1, h2, hkn, hfw, hnc, hrc, hk06, hwi, hmk, hq, vA1, vA2, mdk_within, md1_nc, md1_rc, nzChecks, hn4, hr4, ht4, hrow]
  · rw [decide_eq_false hf] at hfw
    simp (disch := omega) only [go_sem, ↓IntWalk.iteOmega, IntWalk.toNatUp, Nat.reduceEqDiff, Nat.reduceAdd, Nat.reduceMul, Nat.reduceSub, Nat.reduceLT, Nat.reduceLeDiff, Int.reduceToNat, Int.reduceLT, Int.reduceLE, Int.reduceEq, Int.reduceAdd, Int.reduceSub, Int.reduceMul, Int.toNat_natCast, reduceCtorEq, decide_true, decide_false, IntWalk.i64_in, IntWalk.u64_in, IntWalk.u8_in, hkn, hfw, mdk_known, md1_few]
end Go.Proofs.Ytcaemgpificohaa.A

namespace Go.Proofs.Ytcaemgpificohaa
open Go Go.Proofs.Ytcaemgpificohaa.A
set_option maxRecDepth 100000 in
theorem nfaChecks_lifted (os : Os) (started : os.Started) (H : Type) (enc : TypeId × Value → H) :
    ReturnsInHanded {} Try.checked os 5 .any (Rows.nfaChecksSpec.pre6 enc Try.prog Try.f5 Rows.nfaChecksRow.domain false) (Rows.nfaChecksSpec.post enc Try.prog Try.f5 false true false false) :=
  law_lifted (C := Try.checked) Try.own started (by kernel_rfl) Try.func5
    (ChangeSpec.witness6 (enc := enc) (C := Try.checked) false ⟨#[], #[.agg #[.int .i64 0, .int .i64 0, .int .i64 0, .slice none 0 0, .slice none 0 0], .int .i64 0, .slice none 0 0, .int .i64 0, .int .i64 0, .int .i64 0], []⟩ 8 (by kernel_rfl) (by kernel_rfl) (by kernel_rfl) (by kernel_rfl))
    Try.laidOut (ks := [28, 3, 40, 25, 48, 26, 49]) (by kernel_rfl) (by kernel_rfl) (tb := 4) (by kernel_rfl) (by kernel_rfl) rfl
    (fun ds hds => by
      match ds, hds with
      | [_, _, _, _, _, _], _ => exact ⟨rfl, rfl, rfl⟩)
    (fun xs hxs => by
      rw [show Try.f5.params.toList = [28, 3, 40, 3, 3, 3] from rfl] at hxs
      match xs, hxs with
      | [x1, x2, x3, x4, x5, x6], ⟨h1, h2, h3, h4, h5, h6, _⟩ =>
        obtain ⟨n1a, n1b, n1c, n1d, n1e, rfl⟩ := arg_nfa h1
        obtain ⟨n2, rfl, _⟩ := arg_int (k := .i64) (by kernel_rfl) h2
        obtain ⟨n3, rfl, _⟩ := arg_ints (e := 3) (by kernel_rfl) (by kernel_rfl) h3
        obtain ⟨n4, rfl, _⟩ := arg_int (k := .i64) (by kernel_rfl) h4
        obtain ⟨n5, rfl, _⟩ := arg_int (k := .i64) (by kernel_rfl) h5
        obtain ⟨n6, rfl, _⟩ := arg_int (k := .i64) (by kernel_rfl) h6
        exact checks_ok n1a n1b n1c n1d n1e n2 n3 n4 n5 n6)
theorem nfaChecks_holds : Rows.NfaChecksSaid :=
  OpenClaim.holds_of_wide 5 Try.f5 rfl rfl rfl rfl rfl rfl rfl ⟨rfl, rfl, rfl, rfl, rfl⟩ rfl rfl rfl rfl rfl (by kernel_rfl) Try.func5 (by kernel_rfl)
    (of_decide_eq_true (by kernel_rfl)) (by unfold Func.isWrapper; first | (rw [if_pos (by decide +kernel)]; kernel_rfl) | (rw [if_neg (by decide +kernel)]; exact ⟨rfl, rfl⟩))
    (fun os started H enc _ => nfaChecks_lifted os started H enc)
end Go.Proofs.Ytcaemgpificohaa
