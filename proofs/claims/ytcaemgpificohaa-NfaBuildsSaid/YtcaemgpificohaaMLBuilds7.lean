/- Arguments that read are data: machines, raw expressions. -/
import Derived.Test.YtcaemgpificohaaMLBuilds1
import Derived.Test.YtcaemgpificohaaMLBuilds2
import Derived.Test.YtcaemgpificohaaMLBuilds3
import Derived.Test.YtcaemgpificohaaMLBuilds4
import Derived.Test.YtcaemgpificohaaMLBuilds5
import Derived.Test.YtcaemgpificohaaMLBuilds6
set_option linter.unusedVariables false
set_option linter.unusedSimpArgs false
set_option linter.unnecessarySimpa false
namespace Go.Proofs.Ytcaemgpificohaa.A
open Go
set_option maxRecDepth 20000
/-! ### a machine that came in -/
theorem shaped_fields {P : Program} {d : Nat} {t : TypeId} {fs : Array Field} (hu : P.underlying t = some (.struct fs)) {xs : List AV} (h : Shaped P d t xs) : ∃ (d' : Nat) (parts : List (List AV)), xs = parts.flatten ∧ parts.length = fs.toList.length ∧ ∀ (i : Nat) (f : Field) (p : List AV), fs.toList[i]? = some f → parts[i]? = some p → Shaped P d' f.type p := by
  cases d with
  | zero => exact h.elim
  | succ d =>
    unfold Shaped at h
    rw [hu] at h
    obtain ⟨parts, h1, h2, h3⟩ := h
    exact ⟨d, parts, h1, by simpa using h2, fun i f p hf hp => h3 i f p (by simpa using hf) hp⟩
theorem shaped_three {P : Program} {d : Nat} {t i : TypeId} {fs : Array Field} (hu : P.underlying t = some (.struct fs)) (hf : fs.toList.map (·.type) = [i, i, i]) (hi : P.underlying i = some (.int .i64)) {xs : List AV} (h : Shaped P d t xs) : ∃ a b c, xs = [.int .i64 a, .int .i64 b, .int .i64 c] := by
  obtain ⟨d', parts, rfl, hl, hp⟩ := shaped_fields hu h
  have hl3 : fs.toList.length = 3 := by have := congrArg List.length hf; simpa using this
  match hfs : fs.toList, hl3 with
  | [f1, f2, f3], _ =>
    rw [hfs] at hl hp hf
    simp only [List.map_cons, List.map_nil, List.cons.injEq, and_true] at hf
    obtain ⟨e1, e2, e3⟩ := hf
    match parts, hl with
    | [p1, p2, p3], _ =>
      obtain ⟨a, rfl⟩ := shaped_int hi (e1 ▸ hp 0 f1 p1 rfl rfl)
      obtain ⟨b, rfl⟩ := shaped_int hi (e2 ▸ hp 1 f2 p2 rfl rfl)
      obtain ⟨c, rfl⟩ := shaped_int hi (e3 ▸ hp 2 f3 p3 rfl rfl)
      exact ⟨a, b, c, rfl⟩
theorem shaped_two {P : Program} {d : Nat} {t i : TypeId} (hu : P.underlying t = some (.array 2 i)) (hi : P.underlying i = some (.int .i64)) {xs : List AV} (h : Shaped P d t xs) : ∃ a b, xs = [.int .i64 a, .int .i64 b] := by
  cases d with
  | zero => exact h.elim
  | succ d =>
    unfold Shaped at h
    rw [hu] at h
    obtain ⟨parts, rfl, hl, hp⟩ := h
    match parts, hl with
    | [p1, p2], _ =>
      obtain ⟨a, rfl⟩ := shaped_int hi (hp p1 (by simp))
      obtain ⟨b, rfl⟩ := shaped_int hi (hp p2 (by simp))
      exact ⟨a, b, rfl⟩
theorem shaped_slice {P : Program} {d : Nat} {t e : TypeId} (hu : P.underlying t = some (.slice e)) {xs : List AV} (h : Shaped P d t xs) : ∃ (d' : Nat) (parts : List (List AV)), xs = [.sl parts.length parts.flatten] ∧ parts.length ≤ maxLen ∧ ∀ p ∈ parts, Shaped P d' e p := by
  cases d with
  | zero => exact h.elim
  | succ d =>
    unfold Shaped at h
    rw [hu] at h
    obtain ⟨parts, h1, h2, h3⟩ := h
    exact ⟨d, parts, h1, h2, h3⟩
theorem parts_S : ∀ {parts : List (List AV)}, (∀ p ∈ parts, ∃ a b c, p = [.int .i64 a, .int .i64 b, .int .i64 c]) → ∃ ss : List (Int × Int × Int), ss.length = parts.length ∧ parts.flatten = cS ss
  | [], _ => ⟨[], rfl, rfl⟩
  | p :: parts, h => by
    obtain ⟨a, b, c, rfl⟩ := h p (List.mem_cons_self ..)
    obtain ⟨ss, h1, h2⟩ := parts_S (fun q hq => h q (List.mem_cons_of_mem _ hq))
    exact ⟨(a, b, c) :: ss, by simp [h1], by simp [cS, h2]⟩
theorem parts_P : ∀ {parts : List (List AV)}, (∀ p ∈ parts, ∃ a b, p = [.int .i64 a, .int .i64 b]) → ∃ ss : List (Int × Int), ss.length = parts.length ∧ parts.flatten = cP ss
  | [], _ => ⟨[], rfl, rfl⟩
  | p :: parts, h => by
    obtain ⟨a, b, rfl⟩ := h p (List.mem_cons_self ..)
    obtain ⟨ss, h1, h2⟩ := parts_P (fun q hq => h q (List.mem_cons_of_mem _ hq))
    exact ⟨(a, b) :: ss, by simp [h1], by simp [cP, h2]⟩
noncomputable def fieldsOf (t : TypeId) : Array Field := match Try.prog.underlying t with | some (.struct fs) => fs | _ => #[]
theorem arg_nfa {x : AV} (h : ArgOf Try.prog 28 x) : ∃ (N S F : Int) (ss : List (Int × Int × Int)) (fs : List (Int × Int)), x = nfaV N S F ss fs := by
  have hu : Try.prog.underlying 28 = some (.struct (fieldsOf 28)) := by kernel_rfl
  have hi : Try.prog.underlying 3 = some (.int .i64) := by kernel_rfl
  have hus : Try.prog.underlying 48 = some (.struct (fieldsOf 48)) := by kernel_rfl
  have hf : (fieldsOf 28).toList.map (·.type) = [3, 3, 3, 25, 26] := by kernel_rfl
  have hfs : (fieldsOf 48).toList.map (·.type) = [3, 3, 3] := by kernel_rfl
  have hsl : Try.prog.underlying 25 = some (.slice 48) := by kernel_rfl
  have hsp : Try.prog.underlying 26 = some (.slice 49) := by kernel_rfl
  have har : Try.prog.underlying 49 = some (.array 2 3) := by kernel_rfl
  unfold ArgOf at h
  rw [hu] at h
  obtain ⟨d, xs, rfl, h⟩ := h
  obtain ⟨d', parts, rfl, hl, hp⟩ := shaped_fields hu h
  generalize fieldsOf 28 = fl at *
  have hl5 : fl.toList.length = 5 := by have := congrArg List.length hf; simpa using this
  match hfl : fl.toList, hl5 with
  | [f1, f2, f3, f4, f5], _ =>
    rw [hfl] at hl hp hf
    simp only [List.map_cons, List.map_nil, List.cons.injEq, and_true] at hf
    obtain ⟨e1, e2, e3, e4, e5⟩ := hf
    match parts, hl with
    | [p1, p2, p3, p4, p5], _ =>
      obtain ⟨a, rfl⟩ := shaped_int hi (e1 ▸ hp 0 f1 p1 rfl rfl)
      obtain ⟨b, rfl⟩ := shaped_int hi (e2 ▸ hp 1 f2 p2 rfl rfl)
      obtain ⟨c, rfl⟩ := shaped_int hi (e3 ▸ hp 2 f3 p3 rfl rfl)
      obtain ⟨d4, q4, rfl, _, h4⟩ := shaped_slice hsl (e4 ▸ hp 3 f4 p4 rfl rfl)
      obtain ⟨d5, q5, rfl, _, h5⟩ := shaped_slice hsp (e5 ▸ hp 4 f5 p5 rfl rfl)
      obtain ⟨ss, s1, s2⟩ := parts_S (fun p hp => shaped_three hus hfs hi (h4 p hp))
      obtain ⟨fs, t1, t2⟩ := parts_P (fun p hp => shaped_two har hi (h5 p hp))
      exact ⟨a, b, c, ss, fs, by rw [nfaV, s1, s2.symm, t1, t2.symm]; rfl⟩
/-! ### raw expressions that came in -/
theorem shaped_slice' {P : Program} {d : Nat} {t e : TypeId} (hu : P.underlying t = some (.slice e)) {xs : List AV} (h : Shaped P d t xs) : ∃ (d' : Nat) (parts : List (List AV)), d' < d ∧ xs = [.sl parts.length parts.flatten] ∧ parts.length ≤ maxLen ∧ ∀ p ∈ parts, Shaped P d' e p := by
  cases d with
  | zero => exact h.elim
  | succ d =>
    unfold Shaped at h
    rw [hu] at h
    obtain ⟨parts, h1, h2, h3⟩ := h
    exact ⟨d, parts, Nat.lt_succ_self d, h1, h2, h3⟩
theorem shaped_fields' {P : Program} {d : Nat} {t : TypeId} {fs : Array Field} (hu : P.underlying t = some (.struct fs)) {xs : List AV} (h : Shaped P d t xs) : ∃ (d' : Nat) (parts : List (List AV)), d' < d ∧ xs = parts.flatten ∧ parts.length = fs.toList.length ∧ ∀ (i : Nat) (f : Field) (p : List AV), fs.toList[i]? = some f → parts[i]? = some p → Shaped P d' f.type p := by
  cases d with
  | zero => exact h.elim
  | succ d =>
    unfold Shaped at h
    rw [hu] at h
    obtain ⟨parts, h1, h2, h3⟩ := h
    exact ⟨d, parts, Nat.lt_succ_self d, h1, by simpa using h2, fun i f p hf hp => h3 i f p (by simpa using hf) hp⟩
theorem parts_R : ∀ {parts : List (List AV)}, (∀ p ∈ parts, ∃ r, p = cRw r) → ∃ l : List Rw, l.length = parts.length ∧ parts.flatten = cRws l
  | [], _ => ⟨[], rfl, by rw [cRws_nil]; rfl⟩
  | p :: parts, h => by
    obtain ⟨r, rfl⟩ := h p (List.mem_cons_self ..)
    obtain ⟨l, h1, h2⟩ := parts_R (fun q hq => h q (List.mem_cons_of_mem _ hq))
    exact ⟨r :: l, by simp [h1], by rw [cRws_cons, List.flatten_cons, h2]⟩
theorem shaped_raw : ∀ (d : Nat) (xs : List AV), Shaped Try.prog d 68 xs → ∃ r, xs = cRw r := by
  have hu : Try.prog.underlying 68 = some (.struct (fieldsOf 68)) := by kernel_rfl
  have hi : Try.prog.underlying 3 = some (.int .i64) := by kernel_rfl
  have hf : (fieldsOf 68).toList.map (·.type) = [3, 3, 22] := by kernel_rfl
  have hsl : Try.prog.underlying 22 = some (.slice 68) := by kernel_rfl
  intro d
  induction d using Nat.strongRecOn with
  | ind d ih =>
    intro xs h
    obtain ⟨d', parts, hd, rfl, hl, hp⟩ := shaped_fields' hu h
    generalize fieldsOf 68 = fl at *
    have hl3 : fl.toList.length = 3 := by have := congrArg List.length hf; simpa using this
    match hfl : fl.toList, hl3 with
    | [f1, f2, f3], _ =>
      rw [hfl] at hl hp hf
      simp only [List.map_cons, List.map_nil, List.cons.injEq, and_true] at hf
      obtain ⟨e1, e2, e3⟩ := hf
      match parts, hl with
      | [p1, p2, p3], _ =>
        obtain ⟨a, rfl⟩ := shaped_int hi (e1 ▸ hp 0 f1 p1 rfl rfl)
        obtain ⟨b, rfl⟩ := shaped_int hi (e2 ▸ hp 1 f2 p2 rfl rfl)
        obtain ⟨d4, q4, hd4, rfl, _, h4⟩ := shaped_slice' hsl (e3 ▸ hp 2 f3 p3 rfl rfl)
        obtain ⟨l, s1, s2⟩ := parts_R (fun p hp => ih d4 (by omega) p (h4 p hp))
        exact ⟨.mk a b l, by rw [cRw_mk, slR, s1, s2.symm]; rfl⟩
theorem arg_raws {x : AV} (h : ArgOf Try.prog 22 x) : ∃ l, x = slR l := by
  have hsl : Try.prog.underlying 22 = some (.slice 68) := by kernel_rfl
  unfold ArgOf at h
  rw [hsl] at h
  obtain ⟨d, h⟩ := h
  obtain ⟨d4, q4, _, e, _, h4⟩ := shaped_slice' hsl h
  obtain ⟨l, s1, s2⟩ := parts_R (fun p hp => shaped_raw d4 p (h4 p hp))
  injection e with e _
  exact ⟨l, by rw [e, slR, s1, s2]⟩
end Go.Proofs.Ytcaemgpificohaa.A
/- Whether a machine is allowed: the program's, the document's; few. -/
namespace Go.Proofs.Ytcaemgpificohaa.A
open Go
set_option maxRecDepth 20000
def okS' (N : Int) (p : Int × Int × Int) : Bool := decide ((0 ≤ p.1 ∧ p.1 < N) ∧ (0 ≤ p.2.1 ∧ p.2.1 < N) ∧ 1 ≤ p.2.2 ∧ p.2.2 ≤ 31)
def okF' (N : Int) (p : Int × Int) : Bool := decide ((0 ≤ p.1 ∧ p.1 < N) ∧ (0 ≤ p.2 ∧ p.2 < N))
def chk (N S F : Int) (ss : List (Int × Int × Int)) (fs : List (Int × Int)) : Bool := decide (1 ≤ N ∧ N ≤ 1000 ∧ ss.length ≤ 20000 ∧ fs.length ≤ 20000 ∧ (0 ≤ S ∧ S < N) ∧ (0 ≤ F ∧ F < N)) && (ss.all (okS' N) && fs.all (okF' N))
theorem lookState (X) : lookedAt (EX md0 X) (fun _ => none) 2 Try.f36 = true := by kernel_rfl
theorem state_ok (args r) (h : R42 args r) : Ok Try.prog 36 args r := by
  obtain ⟨N, S, F, s, ss, fs, rfl, rfl⟩ := h
  refine ok_of_WP (E := EX md0 (fun _ _ => none)) (cr := noR) (tab_nil _) (noR_ok _) mixed (k := 0) Try.func36 (lookState _) rfl ?_
  simp only [Try.f36, Option.getD_some]
  by_cases h : 0 ≤ s
  · simp (disch := omega) only [go_sem, ↓IntWalk.iteOmega, IntWalk.toNatUp, Nat.reduceEqDiff, Nat.reduceAdd, Nat.reduceMul, Nat.reduceSub, Nat.reduceLT, Nat.reduceLeDiff, Int.reduceToNat, Int.reduceLT, Int.reduceLE, Int.reduceEq, Int.reduceAdd, Int.reduceSub, Int.reduceMul, Int.toNat_natCast, reduceCtorEq, decide_true, decide_false, IntWalk.i64_in, IntWalk.u64_in, IntWalk.u8_in]
  · simp (disch := omega) only [go_sem, ↓IntWalk.iteOmega, IntWalk.toNatUp, Nat.reduceEqDiff, Nat.reduceAdd, Nat.reduceMul, Nat.reduceSub, Nat.reduceLT, Nat.reduceLeDiff, Int.reduceToNat, Int.reduceLT, Int.reduceLE, Int.reduceEq, Int.reduceAdd, Int.reduceSub, Int.reduceMul, Int.toNat_natCast, reduceCtorEq, decide_true, decide_false, IntWalk.i64_in, IntWalk.u64_in, IntWalk.u8_in]
    rw [decide_eq_false (by omega)]

theorem look_nfaCheck (X) : lookedAt (EX md0 X) (fun _ => none) 1 Try.f18 = true := by kernel_rfl
theorem nfaCheck_ok (N S F : Int) (ss : List (Int × Int × Int)) (fs : List (Int × Int)) : Ok Try.prog 18 [nfaV N S F ss fs] (.bool (chk N S F ss fs)) := by
  refine ok_of_WP (E := EX md0 (tabLook [(36, tRel R42)])) (cr := noR) (tab_cons (tab_nil _) (tRel_ok state_ok)) (noR_ok _) mixed (k := 20002) Try.func18 (look_nfaCheck _) rfl ?_
  have hin : ∀ s : Int, tabLook [(36, tRel R42)] 36 [nfaV N S F ss fs, .int .i64 s] = some (.bool (decide (0 ≤ s ∧ s < N))) := fun s => tRel_eq (R := R42) R42_fn ⟨N, S, F, s, ss, fs, rfl, rfl⟩
  simp only [Try.f18, Option.getD_some]
  by_cases hh : 1 ≤ N ∧ N ≤ 1000 ∧ ss.length ≤ 20000 ∧ fs.length ≤ 20000 ∧ (0 ≤ S ∧ S < N) ∧ (0 ≤ F ∧ F < N)
  · obtain ⟨c1, c2, c3, c4, ⟨c5, c6⟩, c7, c8⟩ := hh
    have hck : chk N S F ss fs = (ss.all (okS' N) && fs.all (okF' N)) := by
      unfold chk
      rw [decide_eq_true ⟨c1, c2, c3, c4, ⟨c5, c6⟩, c7, c8⟩, Bool.true_and]
    simp (disch := omega) only [go_sem, ↓IntWalk.iteOmega, IntWalk.toNatUp, Nat.reduceEqDiff, Nat.reduceAdd, Nat.reduceMul, Nat.reduceSub, Nat.reduceLT, Nat.reduceLeDiff, Int.reduceToNat, Int.reduceLT, Int.reduceLE, Int.reduceEq, Int.reduceAdd, Int.reduceSub, Int.reduceMul, Int.toNat_natCast, reduceCtorEq, decide_true, decide_false, IntWalk.i64_in, IntWalk.u64_in, IntWalk.u8_in, hin]
    refine WP_loop (fun m a o nx => ∃ i, i ≤ ss.length ∧ m = ss.length - i ∧ 1 ≤ nx ∧ a 1 = .ptr (0, 1) (0, 1) 0 ∧ a 42 = .sl ss.length (cS ss) ∧ a 43 = .int .i64 ss.length ∧ a 44 = .int .i64 i ∧ (ss.take i).all (okS' N) = true ∧
      o (0, 1) = some (.row ⟨28, 1, (0, 1), false, true, [.int .i64 N, .int .i64 S, .int .i64 F, .sl ss.length (cS ss), .sl fs.length (cP fs)]⟩)) ss.length ?_ ?_ ?_
    · omega
    · refine ⟨0, by omega, by omega, by omega, ?_⟩
      simp (disch := omega) only [go_sem, ↓IntWalk.iteOmega, IntWalk.toNatUp, Nat.reduceEqDiff, Nat.reduceAdd, Nat.reduceMul, Nat.reduceSub, Nat.reduceLT, Nat.reduceLeDiff, Int.reduceToNat, Int.reduceLT, Int.reduceLE, Int.reduceEq, Int.reduceAdd, Int.reduceSub, Int.reduceMul, Int.toNat_natCast, reduceCtorEq, decide_true, decide_false, IntWalk.i64_in, IntWalk.u64_in, IntWalk.u8_in, List.take_zero]
    · rintro m a o nx ⟨i, hi, rfl, hnx, h1, h42, h43, hi1, hall, ho1⟩
      by_cases hlt : i < ss.length
      · have hat := cS_at hlt
        have htk := take_succ_getD hlt (0, 0, 0)
        have hmem := getD_mem hlt (0, 0, 0)
        generalize ss.getD i (0, 0, 0) = p at hat htk hmem
        obtain ⟨f, t, set⟩ := p
        simp only at hat
        by_cases hp : (0 ≤ f ∧ f < N) ∧ (0 ≤ t ∧ t < N) ∧ 1 ≤ set ∧ set ≤ 31
        · obtain ⟨⟨p1, p2⟩, ⟨p3, p4⟩, p5, p6⟩ := hp
          simp (disch := omega) only [go_sem, ↓IntWalk.iteOmega, IntWalk.toNatUp, Nat.reduceEqDiff, Nat.reduceAdd, Nat.reduceMul, Nat.reduceSub, Nat.reduceLT, Nat.reduceLeDiff, Int.reduceToNat, Int.reduceLT, Int.reduceLE, Int.reduceEq, Int.reduceAdd, Int.reduceSub, Int.reduceMul, Int.toNat_natCast, reduceCtorEq, decide_true, decide_false, IntWalk.i64_in, IntWalk.u64_in, IntWalk.u8_in, h1, h42, h43, hi1, ho1, hat, hin]
          refine ⟨_, ?_, i + 1, by omega, rfl, rfl, ?_⟩
          · omega
          · rw [htk, List.all_append, hall]
            simp [okS', p1, p2, p3, p4, p5, p6]
        · have hck2 : chk N S F ss fs = false := by
            rw [hck, Bool.and_eq_false_iff]
            refine .inl (Bool.eq_false_iff.2 fun h => hp ?_)
            have := List.all_eq_true.1 h _ hmem
            simpa [okS'] using this
          rw [hck2]
          have hd : ¬ (0 ≤ f ∧ f < N) ∨ ((0 ≤ f ∧ f < N) ∧ ¬ (0 ≤ t ∧ t < N)) ∨ ((0 ≤ f ∧ f < N) ∧ (0 ≤ t ∧ t < N) ∧ set < 1) ∨ ((0 ≤ f ∧ f < N) ∧ (0 ≤ t ∧ t < N) ∧ 1 ≤ set ∧ 31 < set) := by omega
          rcases hd with d | ⟨d1, d2⟩ | ⟨d1, d2, d3⟩ | ⟨d1, d2, d3, d4⟩
          all_goals simp (disch := omega) only [go_sem, ↓IntWalk.iteOmega, IntWalk.toNatUp, Nat.reduceEqDiff, Nat.reduceAdd, Nat.reduceMul, Nat.reduceSub, Nat.reduceLT, Nat.reduceLeDiff, Int.reduceToNat, Int.reduceLT, Int.reduceLE, Int.reduceEq, Int.reduceAdd, Int.reduceSub, Int.reduceMul, Int.toNat_natCast, reduceCtorEq, decide_true, decide_false, IntWalk.i64_in, IntWalk.u64_in, IntWalk.u8_in, h1, h42, h43, hi1, ho1, hat, hin]
      · have hie : i = ss.length := by omega
        rw [hie, List.take_length] at hall
        simp (disch := omega) only [go_sem, ↓IntWalk.iteOmega, IntWalk.toNatUp, Nat.reduceEqDiff, Nat.reduceAdd, Nat.reduceMul, Nat.reduceSub, Nat.reduceLT, Nat.reduceLeDiff, Int.reduceToNat, Int.reduceLT, Int.reduceLE, Int.reduceEq, Int.reduceAdd, Int.reduceSub, Int.reduceMul, Int.toNat_natCast, reduceCtorEq, decide_true, decide_false, IntWalk.i64_in, IntWalk.u64_in, IntWalk.u8_in, h1, h42, h43, hi1, ho1]
        refine WP_loop (fun m a o nx => ∃ i, i ≤ fs.length ∧ m = fs.length - i ∧ 1 ≤ nx ∧ a 1 = .ptr (0, 1) (0, 1) 0 ∧ a 72 = .sl fs.length (cP fs) ∧ a 73 = .int .i64 fs.length ∧ a 74 = .int .i64 i ∧ (fs.take i).all (okF' N) = true ∧
          o (0, 1) = some (.row ⟨28, 1, (0, 1), false, true, [.int .i64 N, .int .i64 S, .int .i64 F, .sl ss.length (cS ss), .sl fs.length (cP fs)]⟩)) fs.length ?_ ?_ ?_
        · omega
        · refine ⟨0, by omega, by omega, by omega, ?_⟩
          simp (disch := omega) only [go_sem, ↓IntWalk.iteOmega, IntWalk.toNatUp, Nat.reduceEqDiff, Nat.reduceAdd, Nat.reduceMul, Nat.reduceSub, Nat.reduceLT, Nat.reduceLeDiff, Int.reduceToNat, Int.reduceLT, Int.reduceLE, Int.reduceEq, Int.reduceAdd, Int.reduceSub, Int.reduceMul, Int.toNat_natCast, reduceCtorEq, decide_true, decide_false, IntWalk.i64_in, IntWalk.u64_in, IntWalk.u8_in, h1, ho1, List.take_zero]
        · clear hi1 h1 ho1
          rintro m a o nx ⟨i, hi, rfl, hnx, h1, h42, h43, hi1, hall2, ho1⟩
          by_cases hlt : i < fs.length
          · have hat := cP_at hlt
            have htk := take_succ_getD hlt (0, 0)
            have hmem := getD_mem hlt (0, 0)
            generalize fs.getD i (0, 0) = p at hat htk hmem
            obtain ⟨f, t⟩ := p
            simp only at hat
            by_cases hp : (0 ≤ f ∧ f < N) ∧ (0 ≤ t ∧ t < N)
            · obtain ⟨⟨p1, p2⟩, p3, p4⟩ := hp
              simp (disch := omega) only [go_sem, ↓IntWalk.iteOmega, IntWalk.toNatUp, Nat.reduceEqDiff, Nat.reduceAdd, Nat.reduceMul, Nat.reduceSub, Nat.reduceLT, Nat.reduceLeDiff, Int.reduceToNat, Int.reduceLT, Int.reduceLE, Int.reduceEq, Int.reduceAdd, Int.reduceSub, Int.reduceMul, Int.toNat_natCast, reduceCtorEq, decide_true, decide_false, IntWalk.i64_in, IntWalk.u64_in, IntWalk.u8_in, h1, h42, h43, hi1, ho1, hat, hin]
              refine ⟨_, ?_, i + 1, by omega, rfl, rfl, ?_⟩
              · omega
              · rw [htk, List.all_append, hall2]
                simp [okF', p1, p2, p3, p4]
            · have hck2 : chk N S F ss fs = false := by
                rw [hck, Bool.and_eq_false_iff]
                refine .inr (Bool.eq_false_iff.2 fun h => hp ?_)
                have := List.all_eq_true.1 h _ hmem
                simpa [okF'] using this
              rw [hck2]
              have hd : ¬ (0 ≤ f ∧ f < N) ∨ ((0 ≤ f ∧ f < N) ∧ ¬ (0 ≤ t ∧ t < N)) := by omega
              rcases hd with d | ⟨d1, d2⟩
              all_goals simp (disch := omega) only [go_sem, ↓IntWalk.iteOmega, IntWalk.toNatUp, Nat.reduceEqDiff, Nat.reduceAdd, Nat.reduceMul, Nat.reduceSub, Nat.reduceLT, Nat.reduceLeDiff, Int.reduceToNat, Int.reduceLT, Int.reduceLE, Int.reduceEq, Int.reduceAdd, Int.reduceSub, Int.reduceMul, Int.toNat_natCast, reduceCtorEq, decide_true, decide_false, IntWalk.i64_in, IntWalk.u64_in, IntWalk.u8_in, h1, h42, h43, hi1, ho1, hat, hin]
          · have hie : i = fs.length := by omega
            rw [hie, List.take_length] at hall2
            rw [hck, hall, hall2]
            simp (disch := omega) only [go_sem, ↓IntWalk.iteOmega, IntWalk.toNatUp, Nat.reduceEqDiff, Nat.reduceAdd, Nat.reduceMul, Nat.reduceSub, Nat.reduceLT, Nat.reduceLeDiff, Int.reduceToNat, Int.reduceLT, Int.reduceLE, Int.reduceEq, Int.reduceAdd, Int.reduceSub, Int.reduceMul, Int.toNat_natCast, reduceCtorEq, decide_true, decide_false, IntWalk.i64_in, IntWalk.u64_in, IntWalk.u8_in, h1, h42, h43, hi1, ho1]
  · have hck : chk N S F ss fs = false := by
      unfold chk
      rw [decide_eq_false hh]; rfl
    rw [hck]
    have hd : N < 1 ∨ (1 ≤ N ∧ 1000 < N) ∨ (1 ≤ N ∧ N ≤ 1000 ∧ 20000 < ss.length) ∨ (1 ≤ N ∧ N ≤ 1000 ∧ ss.length ≤ 20000 ∧ 20000 < fs.length) ∨ (1 ≤ N ∧ N ≤ 1000 ∧ ss.length ≤ 20000 ∧ fs.length ≤ 20000 ∧ ¬ (0 ≤ S ∧ S < N)) ∨ (1 ≤ N ∧ N ≤ 1000 ∧ ss.length ≤ 20000 ∧ fs.length ≤ 20000 ∧ (0 ≤ S ∧ S < N) ∧ ¬ (0 ≤ F ∧ F < N)) := by omega
    rcases hd with d | ⟨d1, d2⟩ | ⟨d1, d2, d3⟩ | ⟨d1, d2, d3, d4⟩ | ⟨d1, d2, d3, d4, d5⟩ | ⟨d1, d2, d3, d4, d5, d6⟩
    all_goals simp (disch := omega) only [go_sem, ↓IntWalk.iteOmega, IntWalk.toNatUp, Nat.reduceEqDiff, Nat.reduceAdd, Nat.reduceMul, Nat.reduceSub, Nat.reduceLT, Nat.reduceLeDiff, Int.reduceToNat, Int.reduceLT, Int.reduceLE, Int.reduceEq, Int.reduceAdd, Int.reduceSub, Int.reduceMul, Int.toNat_natCast, reduceCtorEq, decide_true, decide_false, IntWalk.i64_in, IntWalk.u64_in, IntWalk.u8_in, hin]

theorem look_refCheck (X) : lookedAt (EX md0 X) (fun _ => none) 1 Try.f24 = true := by kernel_rfl
theorem refCheck_ok (N S F : Int) (ss : List (Int × Int × Int)) (fs : List (Int × Int)) : Ok Try.prog 24 [nfaV N S F ss fs] (.bool (chk N S F ss fs)) := by
  refine ok_of_WP (E := EX md0 (tabLook [(42, tRel R42)])) (cr := noR) (tab_cons (tab_nil _) (tRel_ok R42_ok)) (noR_ok _) mixed (k := 20002) Try.func24 (look_refCheck _) rfl ?_
  have hin : ∀ s : Int, tabLook [(42, tRel R42)] 42 [nfaV N S F ss fs, .int .i64 s] = some (.bool (decide (0 ≤ s ∧ s < N))) := fun s => tRel_eq (R := R42) R42_fn ⟨N, S, F, s, ss, fs, rfl, rfl⟩
  simp only [Try.f24, Option.getD_some]
  by_cases hh : 1 ≤ N ∧ N ≤ 1000 ∧ ss.length ≤ 20000 ∧ fs.length ≤ 20000 ∧ (0 ≤ S ∧ S < N) ∧ (0 ≤ F ∧ F < N)
  · obtain ⟨c1, c2, c3, c4, ⟨c5, c6⟩, c7, c8⟩ := hh
    have hck : chk N S F ss fs = (ss.all (okS' N) && fs.all (okF' N)) := by
      unfold chk
      rw [decide_eq_true ⟨c1, c2, c3, c4, ⟨c5, c6⟩, c7, c8⟩, Bool.true_and]
    simp (disch := omega) only [go_sem, ↓IntWalk.iteOmega, IntWalk.toNatUp, Nat.reduceEqDiff, Nat.reduceAdd, Nat.reduceMul, Nat.reduceSub, Nat.reduceLT, Nat.reduceLeDiff, Int.reduceToNat, Int.reduceLT, Int.reduceLE, Int.reduceEq, Int.reduceAdd, Int.reduceSub, Int.reduceMul, Int.toNat_natCast, reduceCtorEq, decide_true, decide_false, IntWalk.i64_in, IntWalk.u64_in, IntWalk.u8_in, hin]
    refine WP_loop (fun m a o nx => ∃ i, i ≤ ss.length ∧ m = ss.length - i ∧ 1 ≤ nx ∧ a 1 = .ptr (0, 1) (0, 1) 0 ∧  a 3 = .int .i64 i ∧ (ss.take i).all (okS' N) = true ∧
      o (0, 1) = some (.row ⟨28, 1, (0, 1), false, true, [.int .i64 N, .int .i64 S, .int .i64 F, .sl ss.length (cS ss), .sl fs.length (cP fs)]⟩)) ss.length ?_ ?_ ?_
    · omega
    · refine ⟨0, by omega, by omega, by omega, ?_⟩
      simp (disch := omega) only [go_sem, ↓IntWalk.iteOmega, IntWalk.toNatUp, Nat.reduceEqDiff, Nat.reduceAdd, Nat.reduceMul, Nat.reduceSub, Nat.reduceLT, Nat.reduceLeDiff, Int.reduceToNat, Int.reduceLT, Int.reduceLE, Int.reduceEq, Int.reduceAdd, Int.reduceSub, Int.reduceMul, Int.toNat_natCast, reduceCtorEq, decide_true, decide_false, IntWalk.i64_in, IntWalk.u64_in, IntWalk.u8_in, List.take_zero]
    · rintro m a o nx ⟨i, hi, rfl, hnx, h1,  hi1, hall, ho1⟩
      by_cases hlt : i < ss.length
      · have hat := cS_at hlt
        have htk := take_succ_getD hlt (0, 0, 0)
        have hmem := getD_mem hlt (0, 0, 0)
        generalize ss.getD i (0, 0, 0) = p at hat htk hmem
        obtain ⟨f, t, set⟩ := p
        simp only at hat
        by_cases hp : (0 ≤ f ∧ f < N) ∧ (0 ≤ t ∧ t < N) ∧ 1 ≤ set ∧ set ≤ 31
        · obtain ⟨⟨p1, p2⟩, ⟨p3, p4⟩, p5, p6⟩ := hp
          simp (disch := omega) only [go_sem, ↓IntWalk.iteOmega, IntWalk.toNatUp, Nat.reduceEqDiff, Nat.reduceAdd, Nat.reduceMul, Nat.reduceSub, Nat.reduceLT, Nat.reduceLeDiff, Int.reduceToNat, Int.reduceLT, Int.reduceLE, Int.reduceEq, Int.reduceAdd, Int.reduceSub, Int.reduceMul, Int.toNat_natCast, reduceCtorEq, decide_true, decide_false, IntWalk.i64_in, IntWalk.u64_in, IntWalk.u8_in, h1,  hi1, ho1, hat, hin]
          refine ⟨_, ?_, i + 1, by omega, rfl, rfl, ?_⟩
          · omega
          · rw [htk, List.all_append, hall]
            simp [okS', p1, p2, p3, p4, p5, p6]
        · have hck2 : chk N S F ss fs = false := by
            rw [hck, Bool.and_eq_false_iff]
            refine .inl (Bool.eq_false_iff.2 fun h => hp ?_)
            have := List.all_eq_true.1 h _ hmem
            simpa [okS'] using this
          rw [hck2]
          have hd : ¬ (0 ≤ f ∧ f < N) ∨ ((0 ≤ f ∧ f < N) ∧ ¬ (0 ≤ t ∧ t < N)) ∨ ((0 ≤ f ∧ f < N) ∧ (0 ≤ t ∧ t < N) ∧ set < 1) ∨ ((0 ≤ f ∧ f < N) ∧ (0 ≤ t ∧ t < N) ∧ 1 ≤ set ∧ 31 < set) := by omega
          rcases hd with d | ⟨d1, d2⟩ | ⟨d1, d2, d3⟩ | ⟨d1, d2, d3, d4⟩
          all_goals simp (disch := omega) only [go_sem, ↓IntWalk.iteOmega, IntWalk.toNatUp, Nat.reduceEqDiff, Nat.reduceAdd, Nat.reduceMul, Nat.reduceSub, Nat.reduceLT, Nat.reduceLeDiff, Int.reduceToNat, Int.reduceLT, Int.reduceLE, Int.reduceEq, Int.reduceAdd, Int.reduceSub, Int.reduceMul, Int.toNat_natCast, reduceCtorEq, decide_true, decide_false, IntWalk.i64_in, IntWalk.u64_in, IntWalk.u8_in, h1,  hi1, ho1, hat, hin]
      · have hie : i = ss.length := by omega
        rw [hie, List.take_length] at hall
        simp (disch := omega) only [go_sem, ↓IntWalk.iteOmega, IntWalk.toNatUp, Nat.reduceEqDiff, Nat.reduceAdd, Nat.reduceMul, Nat.reduceSub, Nat.reduceLT, Nat.reduceLeDiff, Int.reduceToNat, Int.reduceLT, Int.reduceLE, Int.reduceEq, Int.reduceAdd, Int.reduceSub, Int.reduceMul, Int.toNat_natCast, reduceCtorEq, decide_true, decide_false, IntWalk.i64_in, IntWalk.u64_in, IntWalk.u8_in, h1,  hi1, ho1]
        refine WP_loop (fun m a o nx => ∃ i, i ≤ fs.length ∧ m = fs.length - i ∧ 1 ≤ nx ∧ a 1 = .ptr (0, 1) (0, 1) 0 ∧  a 5 = .int .i64 i ∧ (fs.take i).all (okF' N) = true ∧
          o (0, 1) = some (.row ⟨28, 1, (0, 1), false, true, [.int .i64 N, .int .i64 S, .int .i64 F, .sl ss.length (cS ss), .sl fs.length (cP fs)]⟩)) fs.length ?_ ?_ ?_
        · omega
        · refine ⟨0, by omega, by omega, by omega, ?_⟩
          simp (disch := omega) only [go_sem, ↓IntWalk.iteOmega, IntWalk.toNatUp, Nat.reduceEqDiff, Nat.reduceAdd, Nat.reduceMul, Nat.reduceSub, Nat.reduceLT, Nat.reduceLeDiff, Int.reduceToNat, Int.reduceLT, Int.reduceLE, Int.reduceEq, Int.reduceAdd, Int.reduceSub, Int.reduceMul, Int.toNat_natCast, reduceCtorEq, decide_true, decide_false, IntWalk.i64_in, IntWalk.u64_in, IntWalk.u8_in, h1, ho1, List.take_zero]
        · clear hi1 h1 ho1
          rintro m a o nx ⟨i, hi, rfl, hnx, h1,  hi1, hall2, ho1⟩
          by_cases hlt : i < fs.length
          · have hat := cP_at hlt
            have htk := take_succ_getD hlt (0, 0)
            have hmem := getD_mem hlt (0, 0)
            generalize fs.getD i (0, 0) = p at hat htk hmem
            obtain ⟨f, t⟩ := p
            simp only at hat
            by_cases hp : (0 ≤ f ∧ f < N) ∧ (0 ≤ t ∧ t < N)
            · obtain ⟨⟨p1, p2⟩, p3, p4⟩ := hp
              simp (disch := omega) only [go_sem, ↓IntWalk.iteOmega, IntWalk.toNatUp, Nat.reduceEqDiff, Nat.reduceAdd, Nat.reduceMul, Nat.reduceSub, Nat.reduceLT, Nat.reduceLeDiff, Int.reduceToNat, Int.reduceLT, Int.reduceLE, Int.reduceEq, Int.reduceAdd, Int.reduceSub, Int.reduceMul, Int.toNat_natCast, reduceCtorEq, decide_true, decide_false, IntWalk.i64_in, IntWalk.u64_in, IntWalk.u8_in, h1,  hi1, ho1, hat, hin]
              refine ⟨_, ?_, i + 1, by omega, rfl, rfl, ?_⟩
              · omega
              · rw [htk, List.all_append, hall2]
                simp [okF', p1, p2, p3, p4]
            · have hck2 : chk N S F ss fs = false := by
                rw [hck, Bool.and_eq_false_iff]
                refine .inr (Bool.eq_false_iff.2 fun h => hp ?_)
                have := List.all_eq_true.1 h _ hmem
                simpa [okF'] using this
              rw [hck2]
              have hd : ¬ (0 ≤ f ∧ f < N) ∨ ((0 ≤ f ∧ f < N) ∧ ¬ (0 ≤ t ∧ t < N)) := by omega
              rcases hd with d | ⟨d1, d2⟩
              all_goals simp (disch := omega) only [go_sem, ↓IntWalk.iteOmega, IntWalk.toNatUp, Nat.reduceEqDiff, Nat.reduceAdd, Nat.reduceMul, Nat.reduceSub, Nat.reduceLT, Nat.reduceLeDiff, Int.reduceToNat, Int.reduceLT, Int.reduceLE, Int.reduceEq, Int.reduceAdd, Int.reduceSub, Int.reduceMul, Int.toNat_natCast, reduceCtorEq, decide_true, decide_false, IntWalk.i64_in, IntWalk.u64_in, IntWalk.u8_in, h1,  hi1, ho1, hat, hin]
          · have hie : i = fs.length := by omega
            rw [hie, List.take_length] at hall2
            rw [hck, hall, hall2]
            simp (disch := omega) only [go_sem, ↓IntWalk.iteOmega, IntWalk.toNatUp, Nat.reduceEqDiff, Nat.reduceAdd, Nat.reduceMul, Nat.reduceSub, Nat.reduceLT, Nat.reduceLeDiff, Int.reduceToNat, Int.reduceLT, Int.reduceLE, Int.reduceEq, Int.reduceAdd, Int.reduceSub, Int.reduceMul, Int.toNat_natCast, reduceCtorEq, decide_true, decide_false, IntWalk.i64_in, IntWalk.u64_in, IntWalk.u8_in, h1,  hi1, ho1]
  · have hck : chk N S F ss fs = false := by
      unfold chk
      rw [decide_eq_false hh]; rfl
    rw [hck]
    have hd : N < 1 ∨ (1 ≤ N ∧ 1000 < N) ∨ (1 ≤ N ∧ N ≤ 1000 ∧ 20000 < ss.length) ∨ (1 ≤ N ∧ N ≤ 1000 ∧ ss.length ≤ 20000 ∧ 20000 < fs.length) ∨ (1 ≤ N ∧ N ≤ 1000 ∧ ss.length ≤ 20000 ∧ fs.length ≤ 20000 ∧ ¬ (0 ≤ S ∧ S < N)) ∨ (1 ≤ N ∧ N ≤ 1000 ∧ ss.length ≤ 20000 ∧ fs.length ≤ 20000 ∧ (0 ≤ S ∧ S < N) ∧ ¬ (0 ≤ F ∧ F < N)) := by omega
    rcases hd with d | ⟨d1, d2⟩ | ⟨d1, d2, d3⟩ | ⟨d1, d2, d3, d4⟩ | ⟨d1, d2, d3, d4, d5⟩ | ⟨d1, d2, d3, d4, d5, d6⟩
    all_goals simp (disch := omega) only [go_sem, ↓IntWalk.iteOmega, IntWalk.toNatUp, Nat.reduceEqDiff, Nat.reduceAdd, Nat.reduceMul, Nat.reduceSub, Nat.reduceLT, Nat.reduceLeDiff, Int.reduceToNat, Int.reduceLT, Int.reduceLE, Int.reduceEq, Int.reduceAdd, Int.reduceSub, Int.reduceMul, Int.toNat_natCast, reduceCtorEq, decide_true, decide_false, IntWalk.i64_in, IntWalk.u64_in, IntWalk.u8_in, hin]

theorem lookFew (X) : lookedAt (EX md0 X) (fun _ => none) 1 Try.f22 = true := by kernel_rfl
theorem few_ok (N S F : Int) (ss : List (Int × Int × Int)) (fs : List (Int × Int)) : Ok Try.prog 22 [nfaV N S F ss fs] (.bool (decide (ss.length ≤ 60 ∧ fs.length ≤ 60))) := by
  refine ok_of_WP (E := EX md0 (fun _ _ => none)) (cr := noR) (tab_nil _) (noR_ok _) mixed (k := 0) Try.func22 (lookFew _) rfl ?_
  simp only [Try.f22, Option.getD_some]
  by_cases h1 : ss.length ≤ 60
  · by_cases h2 : fs.length ≤ 60
    · rw [decide_eq_true ⟨h1, h2⟩]
      simp (disch := omega) only [go_sem, ↓IntWalk.iteOmega, IntWalk.toNatUp, Nat.reduceEqDiff, Nat.reduceAdd, Nat.reduceMul, Nat.reduceSub, Nat.reduceLT, Nat.reduceLeDiff, Int.reduceToNat, Int.reduceLT, Int.reduceLE, Int.reduceEq, Int.reduceAdd, Int.reduceSub, Int.reduceMul, Int.toNat_natCast, reduceCtorEq, decide_true, decide_false, IntWalk.i64_in, IntWalk.u64_in, IntWalk.u8_in]
      rw [decide_eq_true (by omega)]
    · rw [decide_eq_false (fun h => h2 h.2)]
      simp (disch := omega) only [go_sem, ↓IntWalk.iteOmega, IntWalk.toNatUp, Nat.reduceEqDiff, Nat.reduceAdd, Nat.reduceMul, Nat.reduceSub, Nat.reduceLT, Nat.reduceLeDiff, Int.reduceToNat, Int.reduceLT, Int.reduceLE, Int.reduceEq, Int.reduceAdd, Int.reduceSub, Int.reduceMul, Int.toNat_natCast, reduceCtorEq, decide_true, decide_false, IntWalk.i64_in, IntWalk.u64_in, IntWalk.u8_in]
      rw [decide_eq_false (by omega)]
  · rw [decide_eq_false (fun h => h1 h.1)]
    simp (disch := omega) only [go_sem, ↓IntWalk.iteOmega, IntWalk.toNatUp, Nat.reduceEqDiff, Nat.reduceAdd, Nat.reduceMul, Nat.reduceSub, Nat.reduceLT, Nat.reduceLeDiff, Int.reduceToNat, Int.reduceLT, Int.reduceLE, Int.reduceEq, Int.reduceAdd, Int.reduceSub, Int.reduceMul, Int.toNat_natCast, reduceCtorEq, decide_true, decide_false, IntWalk.i64_in, IntWalk.u64_in, IntWalk.u8_in]
end Go.Proofs.Ytcaemgpificohaa.A
/- A, part 31: contracts on the caller's memory, as relations. -/
namespace Go.Proofs.Ytcaemgpificohaa.A
open Go
abbrev RRel := List AV → AH → AV → AH → Prop
open Classical in
noncomputable def cRel (R : RRel) (args : List AV) (H : AH) : Option (AV × AH) := if h : ∃ p : AV × AH, R args H p.1 p.2 then some h.choose else none
theorem cRel_some {R : RRel} {args H v H'} (h : cRel R args H = some (v, H')) : R args H v H' := by
  unfold cRel at h
  split at h
  · rename_i e
    have := e.choose_spec
    injection h with h
    rw [h] at this
    exact this
  · cases h
theorem cRel_call {R : RRel} {args : List AV} {H : AH} {K : AV × AH → Prop} (h1 : ∃ v H', R args H v H') (h2 : ∀ v H', R args H v H' → K (v, H')) : wO (Option.map (fun p => freezeR false p.1 p.2) (cRel R args H)) K := by
  obtain ⟨v, H', h⟩ := h1
  have e : ∃ p : AV × AH, R args H p.1 p.2 := ⟨(v, H'), h⟩
  have e2 : cRel R args H = some e.choose := by unfold cRel; rw [dif_pos e]
  rw [e2]
  exact h2 _ _ e.choose_spec
theorem runPR_of_WP {E : Env} {cr : CallR} {k : Nat} {nz : Nat → Option (List (Nat × Nat))} {fn : Func} {c : Code} {args : List AV} {o : Ob} {nx : Nat} {Post : AV → Ob → Nat → Prop} (hb : fn.body = some c)
    (h : WP E cr k nz c (begin_ args) o nx (fun u a o' nx' => (u = .normal ∨ u = .ret) ∧ wO (resultsL E.P a ⟨o', nx'⟩ fn.results.toList) (fun vs => Post (tup1 vs) o' nx'))) :
    ∃ v H', runP E cr k nz fn args ⟨o, nx⟩ = some (v, H') ∧ Post v H'.o H'.nx := by
  unfold WP at h
  unfold runP
  rw [hb]
  dsimp only
  cases he : evalP E (fun _ _ => none) cr k nz none c (begin_ args) ⟨o, nx⟩ with
  | none => rw [he] at h; exact h.elim
  | some p =>
    obtain ⟨u, a, H⟩ := p
    rw [he] at h
    obtain ⟨hu, h⟩ := h
    obtain ⟨vs, h1, h2⟩ : ∃ vs, resultsL E.P a H fn.results.toList = some vs ∧ Post (tup1 vs) H.o H.nx := by
      unfold wO at h
      split at h
      · rename_i vs e; exact ⟨vs, e, h⟩
      · exact h.elim
    rcases hu with rfl | rfl
    · dsimp only
      refine ⟨tup1 vs, H, ?_, h2⟩
      show (resultsL E.P a H fn.results.toList).map _ = _
      rw [show resultsL E.P a H fn.results.toList = some vs from h1]; rfl
    · dsimp only
      refine ⟨tup1 vs, H, ?_, h2⟩
      show (resultsL E.P a H fn.results.toList).map _ = _
      rw [show resultsL E.P a H fn.results.toList = some vs from h1]; rfl
theorem okR_of_WP {E : Env} {cr : CallR} (hX : CPSound E.P E.ext) (hR : CRSound E.P cr ∧ Up cr) (hm : E.P.follows .mixedOrders = true) {k : Nat} {nz : Nat → Option (List (Nat × Nat))} {fn : Func} {f : FuncId} {args : List AV} {o : Ob} {nx : Nat} {Post : AV → Ob → Nat → Prop} (hf : E.P.funcs[f]? = some fn)
    (hl : lookedAt E nz args.length fn = true) (hb : fn.body = some (fn.body.getD .skip))
    (h : WP E cr k nz (fn.body.getD .skip) (begin_ args) o nx (fun u a o' nx' => (u = .normal ∨ u = .ret) ∧ wO (resultsL E.P a ⟨o', nx'⟩ fn.results.toList) (fun vs => Post (tup1 vs) o' nx'))) : ∃ v H', OkR E.P f args ⟨o, nx⟩ v H' ∧ Post v H'.o H'.nx := by
  obtain ⟨v, H', h1, h2⟩ := runPR_of_WP hb h
  exact ⟨v, H', okR_run hX hR.1 hR.2 hm hf hl h1, h2⟩
end Go.Proofs.Ytcaemgpificohaa.A
/- l4 part and Make: contracts. UNDER WAY. -/
namespace Go.Proofs.Ytcaemgpificohaa.A
open Go
set_option maxRecDepth 20000
theorem sign_conv (x : Int) : IntKind.u64.wrap (x % 5) = x % 5 := IntWalk.u64_in _ (by have := Int.emod_nonneg x (show (5 : Int) ≠ 0 by decide); have := Int.emod_lt_of_pos x (show (0 : Int) < 5 by decide); omega)
def RMk (l : List Rw) (args : List AV) (r : AV) : Prop := ∃ i, i < l.length ∧ args = [rawV (l.getD i default)] ∧ r = nodeV (makeN (l.getD i default))
theorem RMk_fn (l) : Fun1 (RMk l) := by
  rintro args r r' ⟨i, _, rfl, rfl⟩ ⟨j, _, h, rfl⟩
  simp only [List.cons.injEq, AV.agg.injEq, and_true] at h
  rw [cRw_inj h]
theorem lookPart (X) : lookedAt (EX md0 X) (fun _ => none) 2 Try.f54 = true := by kernel_rfl
theorem part_ok (k n : Int) (l : List Rw) (hch : ∀ i, i < l.length → Ok Try.prog 34 [rawV (l.getD i default)] (nodeV (makeN (l.getD i default)))) (i : Nat) (hi : i ≤ 1000000) :
    Ok Try.prog 54 [rawV (.mk k n l), .int .i64 i] (nodeV (partN n (makeNs l) i)) := by
  refine ok_of_WP (E := EX md0 (tabLook [(34, tRel (RMk l)), (53, tRel RW)])) (cr := noR) (tab_cons (tab_cons (tab_nil _) (tRel_ok within2_ok)) (tRel_ok (fun args r h => by obtain ⟨i, hi, rfl, rfl⟩ := h; exact hch i hi))) (noR_ok _) mixed (k := 0) Try.func54 (lookPart _) rfl ?_
  have hmk : ∀ j, j < l.length → tabLook [(34, tRel (RMk l)), (53, tRel RW)] 34 [rawV (l.getD j default)] = some (nodeV (makeN (l.getD j default))) := fun j hj => tRel_eq (RMk_fn l) ⟨j, hj, rfl, rfl⟩
  have hwi : ∀ a m : Int, 0 < m → m ≤ 1000000 → tabLook [(34, tRel (RMk l)), (53, tRel RW)] 53 [.int .i64 a, .int .i64 m] = some (.int .i64 (a % m)) := fun a m h1 h2 => rw_eq h1 h2
  simp only [Try.f54, Option.getD_some]
  by_cases hlt : i < l.length
  · have hat := cRws_at hlt
    have e : partN n (makeNs l) i = makeN (l.getD i default) := by rw [partN, makeNs_length, if_pos hlt, makeNs_get hlt]
    rw [e]
    have hm := hmk i hlt
    simp (disch := omega) only [go_sem, ↓IntWalk.iteOmega, IntWalk.toNatUp, Nat.reduceEqDiff, Nat.reduceAdd, Nat.reduceMul, Nat.reduceSub, Nat.reduceLT, Nat.reduceLeDiff, Int.reduceToNat, Int.reduceLT, Int.reduceLE, Int.reduceEq, Int.reduceAdd, Int.reduceSub, Int.reduceMul, Int.toNat_natCast, reduceCtorEq, decide_true, decide_false, IntWalk.i64_in, IntWalk.u64_in, IntWalk.u8_in, hat, hm]
  · have e : partN n (makeNs l) i = .mk 1 (sign (IntKind.i64.wrap (n + i))) 0 0 [] := by rw [partN, makeNs_length, if_neg hlt]
    rw [e]
    have hs := sign_conv (IntKind.i64.wrap (n + i))
    have hs0 := Int.emod_nonneg (IntKind.i64.wrap (n + i)) (show (5 : Int) ≠ 0 by decide)
    simp (disch := omega) only [go_sem, ↓IntWalk.iteOmega, IntWalk.toNatUp, Nat.reduceEqDiff, Nat.reduceAdd, Nat.reduceMul, Nat.reduceSub, Nat.reduceLT, Nat.reduceLeDiff, Int.reduceToNat, Int.reduceLT, Int.reduceLE, Int.reduceEq, Int.reduceAdd, Int.reduceSub, Int.reduceMul, Int.toNat_natCast, reduceCtorEq, decide_true, decide_false, IntWalk.i64_in, IntWalk.u64_in, IntWalk.u8_in, hwi, hs]
    simp only [nodeV, cNd_mk, sign, slN, cNds_nil, List.length_nil]
def nz34 : Nat → Option (List (Nat × Nat))
  | 17 => some [(1, 4), (1, 5)]
  | 25 => some [(1, 4), (1, 5)]
  | _ => none
theorem many4_in (n : Nat) : 2 ≤ many4 n ∧ many4 n ≤ 4 := by unfold many4; split <;> (try split) <;> omega
theorem many4_lt {n i : Nat} (h : i < many4 n) : i < 2 ∨ (2 ≤ i ∧ i < n ∧ i < 4) := by unfold many4 at h; split at h <;> (try split at h) <;> omega

theorem join_loop (k n : Int) (l : List Rw) (hpart : ∀ i : Nat, i ≤ 1000000 → Ok Try.prog 54 [rawV (.mk k n l), .int .i64 i] (nodeV (partN n (makeNs l) i))) (X : FuncId → List AV → Option AV)
    (hX : ∀ i : Nat, i ≤ 1000000 → X 54 [rawV (.mk k n l), .int .i64 i] = some (nodeV (partN n (makeNs l) i))) (kind : Int) {Q : WPost} (a : AAct) (o : Ob) (nx st : Nat) (hst : st < nx) (hst2 : 2 ≤ st)
    (h1 : a 1 = .ptr (0, 1) (0, 1) 0) (h2 : a 2 = .ptr (0, 2) (0, 2) 0) (h3 : a 3 = .ptr (st, 3) (st, 3) 0) (h4 : a 4 = .int .i64 0)
    (ho1 : o (0, 1) = some (.row ⟨68, 1, (0, 1), false, true, cRw (.mk k n l)⟩)) (ho2 : ∃ x, o (0, 2) = some (.row ⟨34, 1, (0, 2), false, true, x⟩) ∧ x.length = 5) (ho3 : o (st, 3) = some (.row ⟨34, 1, (st, 3), false, true, [.int .i64 kind, .int .i64 0, .int .i64 0, .int .i64 0, .nil]⟩))
    (hQ : ∀ a o nx, a 2 = .ptr (0, 2) (0, 2) 0 → (∃ v, o (0, 2) = some (.row ⟨34, 1, (0, 2), false, true, [.int .i64 kind, .int .i64 0, .int .i64 0, .int .i64 0, v]⟩) ∧ HS 34 5 63 o nx v (many4 l.length) (cNds ((List.range (many4 l.length)).map (partN n (makeNs l))))) → Q .ret a o nx) :
    WP (EX md0 X) noR 10 nz34 (pathC [1, 0, 1, 0, 1, 1, 1, 1, 1, 1, 1, 0, 1, 0, 1, 0] (Try.f34.body.getD .skip)) a o nx (blockQ 1 (thenQ (EX md0 X) noR 10 nz34 (pathC [1, 0, 1, 0, 1, 1, 1, 1, 1, 1, 1, 0, 1, 1] (Try.f34.body.getD .skip)) Q)) := by
  simp only [Try.f34, Option.getD_some, pathC]
  have hc := many4_in l.length
  refine WP_loop (fun m a o nx => ∃ i v, i ≤ many4 l.length ∧ m = many4 l.length - i ∧ st < nx ∧ a 1 = .ptr (0, 1) (0, 1) 0 ∧ a 2 = .ptr (0, 2) (0, 2) 0 ∧ a 3 = .ptr (st, 3) (st, 3) 0 ∧ a 4 = .int .i64 i ∧ HS 34 5 63 o nx v i (cNds ((List.range i).map (partN n (makeNs l)))) ∧
    o (0, 1) = some (.row ⟨68, 1, (0, 1), false, true, cRw (.mk k n l)⟩) ∧ (∃ x, o (0, 2) = some (.row ⟨34, 1, (0, 2), false, true, x⟩) ∧ x.length = 5) ∧ o (st, 3) = some (.row ⟨34, 1, (st, 3), false, true, [.int .i64 kind, .int .i64 0, .int .i64 0, .int .i64 0, v]⟩)) (many4 l.length) ?_ ⟨0, .nil, by omega, by omega, by omega, h1, h2, h3, h4, HS.nil, ho1, ho2, ho3⟩ ?_
  · omega
  · clear h1 h2 h3 h4 ho1 ho2 ho3
    rintro m a o nx ⟨i, v, hi, rfl, hnx, h1, h2, h3, h4, hHS, ho1, ⟨x, ho2, hx5⟩, ho3⟩
    have hok := hHS.ok
    by_cases hlt : i < many4 l.length
    · have hcond : i < 2 ∨ (2 ≤ i ∧ i < l.length ∧ i < 4) := many4_lt hlt
      have hp := hX i (by omega)
      simp only [rawV, nodeV, cRw_mk] at hp
      have hsn : (List.range (i + 1)).map (partN n (makeNs l)) = (List.range i).map (partN n (makeNs l)) ++ [partN n (makeNs l) i] := by rw [List.range_succ, List.map_append]; rfl
      rcases hHS with ⟨rfl, e2, e3⟩ | ⟨i1, g1, rfl, hi1, hrow, hlen⟩
      · rcases hcond with c | ⟨c1, c2, c3⟩
        · simp (disch := omega) only [go_sem, ↓IntWalk.iteOmega, IntWalk.toNatUp, Nat.reduceEqDiff, Nat.reduceAdd, Nat.reduceMul, Nat.reduceSub, Nat.reduceLT, Nat.reduceLeDiff, Int.reduceToNat, Int.reduceLT, Int.reduceLE, Int.reduceEq, Int.reduceAdd, Int.reduceSub, Int.reduceMul, Int.toNat_natCast, reduceCtorEq, decide_true, decide_false, IntWalk.i64_in, IntWalk.u64_in, IntWalk.u8_in, h1, h2, h3, h4, ho1, ho2, ho3, hp, nz34]
          refine ⟨_, ?_, i + 1, _, by omega, rfl, by omega, rfl, ?_, ⟨x, rfl, hx5⟩, rfl⟩
          · omega
          · rw [hsn, cNds_app, cNds_one, List.map_eq_nil_iff.2 (List.length_eq_zero_iff.1 (by rw [List.length_range]; exact e2)), cNds_nil]
            exact .inr ⟨nx + 1, _, by rw [e2], by omega, by simp [upd_app], by rw [List.nil_append, cNd_length, e2]⟩
        · omega
      · obtain ⟨cs, hcs⟩ : ∃ cs, cs = cNds ((List.range i).map (partN n (makeNs l))) := ⟨_, rfl⟩
        rw [← hcs] at hrow hlen
        have htk : cs.take (i * 5) = cs := take_len hlen
        have hfin : ∀ o' nx', o' (i1, 63) = some (.row ⟨34, 5, (nx + 1, 63), false, true, cs ++ cNd (partN n (makeNs l) i)⟩) → i1 < nx' → HS 34 5 63 o' nx' (.ref (i1, 63) (nx + 1, 63) 0 (i + 1)) (i + 1) (cNds ((List.range (i + 1)).map (partN n (makeNs l)))) := by
          intro o' nx' h h'
          rw [hsn, cNds_app, cNds_one, ← hcs]
          exact .inr ⟨i1, _, rfl, h', h, by rw [List.length_append, cNd_length, hlen]; omega⟩
        rcases hcond with c | ⟨c1, c2, c3⟩
        all_goals
          simp (disch := omega) only [go_sem, ↓IntWalk.iteOmega, IntWalk.toNatUp, Nat.reduceEqDiff, Nat.reduceAdd, Nat.reduceMul, Nat.reduceSub, Nat.reduceLT, Nat.reduceLeDiff, Int.reduceToNat, Int.reduceLT, Int.reduceLE, Int.reduceEq, Int.reduceAdd, Int.reduceSub, Int.reduceMul, Int.toNat_natCast, reduceCtorEq, decide_true, decide_false, IntWalk.i64_in, IntWalk.u64_in, IntWalk.u8_in, h1, h2, h3, h4, ho1, ho2, ho3, hp, hrow, nz34, hlen, htk]
          refine ⟨_, ?_, i + 1, _, by omega, rfl, by omega, rfl, hfin _ _ ?_ (by omega), ⟨x, rfl, hx5⟩, rfl⟩
          · omega
          · simp [upd_app]
    · have hie : i = many4 l.length := by omega
      have hc1 : ¬ i < 2 := by omega
      have hx0 : x.drop 5 = [] := List.drop_of_length_le (by omega)
      by_cases c2 : i < l.length
      · have c3 : ¬ i < 4 := by have := hie; unfold many4 at this; split at this <;> (try split at this) <;> omega
        simp (disch := omega) only [go_sem, ↓IntWalk.iteOmega, IntWalk.toNatUp, Nat.reduceEqDiff, Nat.reduceAdd, Nat.reduceMul, Nat.reduceSub, Nat.reduceLT, Nat.reduceLeDiff, Int.reduceToNat, Int.reduceLT, Int.reduceLE, Int.reduceEq, Int.reduceAdd, Int.reduceSub, Int.reduceMul, Int.toNat_natCast, reduceCtorEq, decide_true, decide_false, IntWalk.i64_in, IntWalk.u64_in, IntWalk.u8_in, h1, h2, h3, h4, ho1, ho2, ho3, hc1, hok]
        exact hQ _ _ _ (by simp [put_app, h2]) ⟨v, by rw [upd_same, hx0], by rw [← hie]; exact hHS.keep (fun _ _ => by simp [upd_app]) (by omega)⟩
      · simp (disch := omega) only [go_sem, ↓IntWalk.iteOmega, IntWalk.toNatUp, Nat.reduceEqDiff, Nat.reduceAdd, Nat.reduceMul, Nat.reduceSub, Nat.reduceLT, Nat.reduceLeDiff, Int.reduceToNat, Int.reduceLT, Int.reduceLE, Int.reduceEq, Int.reduceAdd, Int.reduceSub, Int.reduceMul, Int.toNat_natCast, reduceCtorEq, decide_true, decide_false, IntWalk.i64_in, IntWalk.u64_in, IntWalk.u8_in, h1, h2, h3, h4, ho1, ho2, ho3, hc1, hok]
        exact hQ _ _ _ (by simp [put_app, h2]) ⟨v, by rw [upd_same, hx0], by rw [← hie]; exact hHS.keep (fun _ _ => by simp [upd_app]) (by omega)⟩

theorem union_loop (k n : Int) (l : List Rw) (hpart : ∀ i : Nat, i ≤ 1000000 → Ok Try.prog 54 [rawV (.mk k n l), .int .i64 i] (nodeV (partN n (makeNs l) i))) (X : FuncId → List AV → Option AV)
    (hX : ∀ i : Nat, i ≤ 1000000 → X 54 [rawV (.mk k n l), .int .i64 i] = some (nodeV (partN n (makeNs l) i))) (kind : Int) {Q : WPost} (a : AAct) (o : Ob) (nx st : Nat) (hst : st < nx) (hst2 : 2 ≤ st)
    (h1 : a 1 = .ptr (0, 1) (0, 1) 0) (h2 : a 2 = .ptr (0, 2) (0, 2) 0) (h3 : a 5 = .ptr (st, 5) (st, 5) 0) (h4 : a 6 = .int .i64 0)
    (ho1 : o (0, 1) = some (.row ⟨68, 1, (0, 1), false, true, cRw (.mk k n l)⟩)) (ho2 : ∃ x, o (0, 2) = some (.row ⟨34, 1, (0, 2), false, true, x⟩) ∧ x.length = 5) (ho3 : o (st, 5) = some (.row ⟨34, 1, (st, 5), false, true, [.int .i64 kind, .int .i64 0, .int .i64 0, .int .i64 0, .nil]⟩))
    (hQ : ∀ a o nx, a 2 = .ptr (0, 2) (0, 2) 0 → (∃ v, o (0, 2) = some (.row ⟨34, 1, (0, 2), false, true, [.int .i64 kind, .int .i64 0, .int .i64 0, .int .i64 0, v]⟩) ∧ HS 34 5 91 o nx v (many4 l.length) (cNds ((List.range (many4 l.length)).map (partN n (makeNs l))))) → Q .ret a o nx) :
    WP (EX md0 X) noR 10 nz34 (pathC [1, 0, 1, 0, 1, 1, 1, 1, 1, 1, 1, 1, 1, 0, 1, 0, 1, 0] (Try.f34.body.getD .skip)) a o nx (blockQ 3 (thenQ (EX md0 X) noR 10 nz34 (pathC [1, 0, 1, 0, 1, 1, 1, 1, 1, 1, 1, 1, 1, 0, 1, 1] (Try.f34.body.getD .skip)) Q)) := by
  simp only [Try.f34, Option.getD_some, pathC]
  have hc := many4_in l.length
  refine WP_loop (fun m a o nx => ∃ i v, i ≤ many4 l.length ∧ m = many4 l.length - i ∧ st < nx ∧ a 1 = .ptr (0, 1) (0, 1) 0 ∧ a 2 = .ptr (0, 2) (0, 2) 0 ∧ a 5 = .ptr (st, 5) (st, 5) 0 ∧ a 6 = .int .i64 i ∧ HS 34 5 91 o nx v i (cNds ((List.range i).map (partN n (makeNs l)))) ∧
    o (0, 1) = some (.row ⟨68, 1, (0, 1), false, true, cRw (.mk k n l)⟩) ∧ (∃ x, o (0, 2) = some (.row ⟨34, 1, (0, 2), false, true, x⟩) ∧ x.length = 5) ∧ o (st, 5) = some (.row ⟨34, 1, (st, 5), false, true, [.int .i64 kind, .int .i64 0, .int .i64 0, .int .i64 0, v]⟩)) (many4 l.length) ?_ ⟨0, .nil, by omega, by omega, by omega, h1, h2, h3, h4, HS.nil, ho1, ho2, ho3⟩ ?_
  · omega
  · clear h1 h2 h3 h4 ho1 ho2 ho3
    rintro m a o nx ⟨i, v, hi, rfl, hnx, h1, h2, h3, h4, hHS, ho1, ⟨x, ho2, hx5⟩, ho3⟩
    have hok := hHS.ok
    by_cases hlt : i < many4 l.length
    · have hcond : i < 2 ∨ (2 ≤ i ∧ i < l.length ∧ i < 4) := many4_lt hlt
      have hp := hX i (by omega)
      simp only [rawV, nodeV, cRw_mk] at hp
      have hsn : (List.range (i + 1)).map (partN n (makeNs l)) = (List.range i).map (partN n (makeNs l)) ++ [partN n (makeNs l) i] := by rw [List.range_succ, List.map_append]; rfl
      rcases hHS with ⟨rfl, e2, e3⟩ | ⟨i1, g1, rfl, hi1, hrow, hlen⟩
      · rcases hcond with c | ⟨c1, c2, c3⟩
        · simp (disch := omega) only [go_sem, ↓IntWalk.iteOmega, IntWalk.toNatUp, Nat.reduceEqDiff, Nat.reduceAdd, Nat.reduceMul, Nat.reduceSub, Nat.reduceLT, Nat.reduceLeDiff, Int.reduceToNat, Int.reduceLT, Int.reduceLE, Int.reduceEq, Int.reduceAdd, Int.reduceSub, Int.reduceMul, Int.toNat_natCast, reduceCtorEq, decide_true, decide_false, IntWalk.i64_in, IntWalk.u64_in, IntWalk.u8_in, h1, h2, h3, h4, ho1, ho2, ho3, hp, nz34]
          refine ⟨_, ?_, i + 1, _, by omega, rfl, by omega, rfl, ?_, ⟨x, rfl, hx5⟩, rfl⟩
          · omega
          · rw [hsn, cNds_app, cNds_one, List.map_eq_nil_iff.2 (List.length_eq_zero_iff.1 (by rw [List.length_range]; exact e2)), cNds_nil]
            exact .inr ⟨nx + 1, _, by rw [e2], by omega, by simp [upd_app], by rw [List.nil_append, cNd_length, e2]⟩
        · omega
      · obtain ⟨cs, hcs⟩ : ∃ cs, cs = cNds ((List.range i).map (partN n (makeNs l))) := ⟨_, rfl⟩
        rw [← hcs] at hrow hlen
        have htk : cs.take (i * 5) = cs := take_len hlen
        have hfin : ∀ o' nx', o' (i1, 91) = some (.row ⟨34, 5, (nx + 1, 91), false, true, cs ++ cNd (partN n (makeNs l) i)⟩) → i1 < nx' → HS 34 5 91 o' nx' (.ref (i1, 91) (nx + 1, 91) 0 (i + 1)) (i + 1) (cNds ((List.range (i + 1)).map (partN n (makeNs l)))) := by
          intro o' nx' h h'
          rw [hsn, cNds_app, cNds_one, ← hcs]
          exact .inr ⟨i1, _, rfl, h', h, by rw [List.length_append, cNd_length, hlen]; omega⟩
        rcases hcond with c | ⟨c1, c2, c3⟩
        all_goals
          simp (disch := omega) only [go_sem, ↓IntWalk.iteOmega, IntWalk.toNatUp, Nat.reduceEqDiff, Nat.reduceAdd, Nat.reduceMul, Nat.reduceSub, Nat.reduceLT, Nat.reduceLeDiff, Int.reduceToNat, Int.reduceLT, Int.reduceLE, Int.reduceEq, Int.reduceAdd, Int.reduceSub, Int.reduceMul, Int.toNat_natCast, reduceCtorEq, decide_true, decide_false, IntWalk.i64_in, IntWalk.u64_in, IntWalk.u8_in, h1, h2, h3, h4, ho1, ho2, ho3, hp, hrow, nz34, hlen, htk]
          refine ⟨_, ?_, i + 1, _, by omega, rfl, by omega, rfl, hfin _ _ ?_ (by omega), ⟨x, rfl, hx5⟩, rfl⟩
          · omega
          · simp [upd_app]
    · have hie : i = many4 l.length := by omega
      have hc1 : ¬ i < 2 := by omega
      have hx0 : x.drop 5 = [] := List.drop_of_length_le (by omega)
      by_cases c2 : i < l.length
      · have c3 : ¬ i < 4 := by have := hie; unfold many4 at this; split at this <;> (try split at this) <;> omega
        simp (disch := omega) only [go_sem, ↓IntWalk.iteOmega, IntWalk.toNatUp, Nat.reduceEqDiff, Nat.reduceAdd, Nat.reduceMul, Nat.reduceSub, Nat.reduceLT, Nat.reduceLeDiff, Int.reduceToNat, Int.reduceLT, Int.reduceLE, Int.reduceEq, Int.reduceAdd, Int.reduceSub, Int.reduceMul, Int.toNat_natCast, reduceCtorEq, decide_true, decide_false, IntWalk.i64_in, IntWalk.u64_in, IntWalk.u8_in, h1, h2, h3, h4, ho1, ho2, ho3, hc1, hok]
        exact hQ _ _ _ (by simp [put_app, h2]) ⟨v, by rw [upd_same, hx0], by rw [← hie]; exact hHS.keep (fun _ _ => by simp [upd_app]) (by omega)⟩
      · simp (disch := omega) only [go_sem, ↓IntWalk.iteOmega, IntWalk.toNatUp, Nat.reduceEqDiff, Nat.reduceAdd, Nat.reduceMul, Nat.reduceSub, Nat.reduceLT, Nat.reduceLeDiff, Int.reduceToNat, Int.reduceLT, Int.reduceLE, Int.reduceEq, Int.reduceAdd, Int.reduceSub, Int.reduceMul, Int.toNat_natCast, reduceCtorEq, decide_true, decide_false, IntWalk.i64_in, IntWalk.u64_in, IntWalk.u8_in, h1, h2, h3, h4, ho1, ho2, ho3, hc1, hok]
        exact hQ _ _ _ (by simp [put_app, h2]) ⟨v, by rw [upd_same, hx0], by rw [← hie]; exact hHS.keep (fun _ _ => by simp [upd_app]) (by omega)⟩
end Go.Proofs.Ytcaemgpificohaa.A
/- Make: the expression of a raw one. -/
namespace Go.Proofs.Ytcaemgpificohaa.A
open Go
set_option maxRecDepth 20000
def RPart (k n : Int) (l : List Rw) (args : List AV) (r : AV) : Prop := ∃ i : Nat, i ≤ 1000000 ∧ args = [rawV (.mk k n l), .int .i64 i] ∧ r = nodeV (partN n (makeNs l) i)
theorem RPart_fn (k n l) : Fun1 (RPart k n l) := by
  rintro args r r' ⟨i, _, rfl, rfl⟩ ⟨j, _, h, rfl⟩
  simp only [List.cons.injEq, AV.int.injEq, and_true, true_and] at h
  rw [Int.ofNat_inj.1 h]
theorem lookMake (X) : lookedAt (EX md0 X) nz34 10 Try.f34 = true := by kernel_rfl
theorem make1_ok (k n : Int) (l : List Rw) (hpart : ∀ i : Nat, i ≤ 1000000 → Ok Try.prog 54 [rawV (.mk k n l), .int .i64 i] (nodeV (partN n (makeNs l) i))) :
    Ok Try.prog 34 [rawV (.mk k n l)] (nodeV (buildN k n (makeNs l))) := by
  refine ok_of_WP (E := EX md0 (tabLook [(54, tRel (RPart k n l)), (53, tRel RW)])) (cr := noR) (tab_cons (tab_cons (tab_nil _) (tRel_ok within2_ok)) (tRel_ok (fun args r h => by obtain ⟨i, hi, rfl, rfl⟩ := h; exact hpart i hi))) (noR_ok _) mixed (k := 10) Try.func34 (lookMake _) rfl ?_
  obtain ⟨X, hX⟩ : ∃ X, X = tabLook [(54, tRel (RPart k n l)), (53, tRel RW)] := ⟨_, rfl⟩
  have hp : ∀ j : Nat, j ≤ 1000000 → X 54 [rawV (.mk k n l), .int .i64 j] = some (nodeV (partN n (makeNs l) j)) := fun j hj => by rw [hX]; exact tRel_eq (RPart_fn k n l) ⟨j, hj, rfl, rfl⟩
  have hwi : ∀ a m : Int, 0 < m → m ≤ 1000000 → X 53 [.int .i64 a, .int .i64 m] = some (.int .i64 (a % m)) := fun a m h1 h2 => by rw [hX]; exact rw_eq h1 h2
  rw [← hX]
  clear hX
  simp only [Try.f34, Option.getD_some]
  have hk0 := Int.emod_nonneg k (show (14 : Int) ≠ 0 by decide)
  have hk1 := Int.emod_lt_of_pos k (show (0 : Int) < 14 by decide)
  have h31 := Int.emod_nonneg n (show (31 : Int) ≠ 0 by decide)
  have h31' := Int.emod_lt_of_pos n (show (0 : Int) < 31 by decide)
  have hp0 : X 54 [.agg [.int .i64 k, .int .i64 n, .sl l.length (cRws l)], .int .i64 0] = some (.agg (cNd (partN n (makeNs l) 0))) := by
    have := hp 0 (by omega)
    rw [rawV, nodeV, cRw_mk] at this
    exact this
  have hk : k % 14 = 0 ∨ k % 14 = 1 ∨ k % 14 = 2 ∨ k % 14 = 3 ∨ k % 14 = 4 ∨ k % 14 = 5 ∨ k % 14 = 6 ∨ k % 14 = 7 ∨ k % 14 = 8 ∨ k % 14 = 9 ∨ k % 14 = 10 ∨ k % 14 = 11 ∨ k % 14 = 12 ∨ k % 14 = 13 := by omega
  rcases hk with e | e | e | e | e | e | e | e | e | e | e | e | e | e
  · simp (disch := omega) only [go_sem, ↓IntWalk.iteOmega, IntWalk.toNatUp, Nat.reduceEqDiff, Nat.reduceAdd, Nat.reduceMul, Nat.reduceSub, Nat.reduceLT, Nat.reduceLeDiff, Int.reduceToNat, Int.reduceLT, Int.reduceLE, Int.reduceEq, Int.reduceAdd, Int.reduceSub, Int.reduceMul, Int.toNat_natCast, reduceCtorEq, decide_true, decide_false, IntWalk.i64_in, IntWalk.u64_in, IntWalk.u8_in, hwi, e, buildN]
    simp only [nodeV, cNd_mk, sign, slN, cNds_nil, List.length_nil]
  · simp (disch := omega) only [go_sem, ↓IntWalk.iteOmega, IntWalk.toNatUp, Nat.reduceEqDiff, Nat.reduceAdd, Nat.reduceMul, Nat.reduceSub, Nat.reduceLT, Nat.reduceLeDiff, Int.reduceToNat, Int.reduceLT, Int.reduceLE, Int.reduceEq, Int.reduceAdd, Int.reduceSub, Int.reduceMul, Int.toNat_natCast, reduceCtorEq, decide_true, decide_false, IntWalk.i64_in, IntWalk.u64_in, IntWalk.u8_in, hwi, e, buildN]
    simp only [nodeV, cNd_mk, sign, slN, cNds_nil, List.length_nil]
  · simp (disch := omega) only [go_sem, ↓IntWalk.iteOmega, IntWalk.toNatUp, Nat.reduceEqDiff, Nat.reduceAdd, Nat.reduceMul, Nat.reduceSub, Nat.reduceLT, Nat.reduceLeDiff, Int.reduceToNat, Int.reduceLT, Int.reduceLE, Int.reduceEq, Int.reduceAdd, Int.reduceSub, Int.reduceMul, Int.toNat_natCast, reduceCtorEq, decide_true, decide_false, IntWalk.i64_in, IntWalk.u64_in, IntWalk.u8_in, hwi, e, buildN]
    simp only [nodeV, cNd_mk, sign, slN, cNds_nil, List.length_nil]
  · simp (disch := omega) only [go_sem, ↓IntWalk.iteOmega, IntWalk.toNatUp, Nat.reduceEqDiff, Nat.reduceAdd, Nat.reduceMul, Nat.reduceSub, Nat.reduceLT, Nat.reduceLeDiff, Int.reduceToNat, Int.reduceLT, Int.reduceLE, Int.reduceEq, Int.reduceAdd, Int.reduceSub, Int.reduceMul, Int.toNat_natCast, reduceCtorEq, decide_true, decide_false, IntWalk.i64_in, IntWalk.u64_in, IntWalk.u8_in, hwi, e, buildN]
    simp only [nodeV, cNd_mk, sign, slN, cNds_nil, List.length_nil]
  · have h3 : n % 3 = 0 ∨ n % 3 = 1 ∨ n % 3 = 2 := by omega
    rcases h3 with e3 | e3 | e3
    all_goals
      simp (disch := omega) only [go_sem, ↓IntWalk.iteOmega, IntWalk.toNatUp, Nat.reduceEqDiff, Nat.reduceAdd, Nat.reduceMul, Nat.reduceSub, Nat.reduceLT, Nat.reduceLeDiff, Int.reduceToNat, Int.reduceLT, Int.reduceLE, Int.reduceEq, Int.reduceAdd, Int.reduceSub, Int.reduceMul, Int.toNat_natCast, reduceCtorEq, decide_true, decide_false, IntWalk.i64_in, IntWalk.u64_in, IntWalk.u8_in, hwi, e, e3, buildN]
      simp only [nodeV, cNd_mk, slN, cNds_nil, List.length_nil]
  · simp (disch := omega) only [go_sem, ↓IntWalk.iteOmega, IntWalk.toNatUp, Nat.reduceEqDiff, Nat.reduceAdd, Nat.reduceMul, Nat.reduceSub, Nat.reduceLT, Nat.reduceLeDiff, Int.reduceToNat, Int.reduceLT, Int.reduceLE, Int.reduceEq, Int.reduceAdd, Int.reduceSub, Int.reduceMul, Int.toNat_natCast, reduceCtorEq, decide_true, decide_false, IntWalk.i64_in, IntWalk.u64_in, IntWalk.u8_in, hwi, e, buildN]
    refine join_loop k n l hpart X hp 4 _ _ _ _ (by omega) (by omega) rfl rfl rfl rfl rfl ⟨_, rfl, rfl⟩ rfl ?_
    rintro a o nx h2 ⟨v, ho2, hHS⟩
    simp (disch := omega) only [go_sem, ↓IntWalk.iteOmega, IntWalk.toNatUp, Nat.reduceEqDiff, Nat.reduceAdd, Nat.reduceMul, Nat.reduceSub, Nat.reduceLT, Nat.reduceLeDiff, Int.reduceToNat, Int.reduceLT, Int.reduceLE, Int.reduceEq, Int.reduceAdd, Int.reduceSub, Int.reduceMul, Int.toNat_natCast, reduceCtorEq, decide_true, decide_false, IntWalk.i64_in, IntWalk.u64_in, IntWalk.u8_in, h2, ho2]
    rw [hHS.view, nodeV, cNd_mk, slN, List.length_map, List.length_range, makeNs_length, view_cNds]
  · simp (disch := omega) only [go_sem, ↓IntWalk.iteOmega, IntWalk.toNatUp, Nat.reduceEqDiff, Nat.reduceAdd, Nat.reduceMul, Nat.reduceSub, Nat.reduceLT, Nat.reduceLeDiff, Int.reduceToNat, Int.reduceLT, Int.reduceLE, Int.reduceEq, Int.reduceAdd, Int.reduceSub, Int.reduceMul, Int.toNat_natCast, reduceCtorEq, decide_true, decide_false, IntWalk.i64_in, IntWalk.u64_in, IntWalk.u8_in, hwi, e, buildN]
    refine join_loop k n l hpart X hp 4 _ _ _ _ (by omega) (by omega) rfl rfl rfl rfl rfl ⟨_, rfl, rfl⟩ rfl ?_
    rintro a o nx h2 ⟨v, ho2, hHS⟩
    simp (disch := omega) only [go_sem, ↓IntWalk.iteOmega, IntWalk.toNatUp, Nat.reduceEqDiff, Nat.reduceAdd, Nat.reduceMul, Nat.reduceSub, Nat.reduceLT, Nat.reduceLeDiff, Int.reduceToNat, Int.reduceLT, Int.reduceLE, Int.reduceEq, Int.reduceAdd, Int.reduceSub, Int.reduceMul, Int.toNat_natCast, reduceCtorEq, decide_true, decide_false, IntWalk.i64_in, IntWalk.u64_in, IntWalk.u8_in, h2, ho2]
    rw [hHS.view, nodeV, cNd_mk, slN, List.length_map, List.length_range, makeNs_length, view_cNds]
  · simp (disch := omega) only [go_sem, ↓IntWalk.iteOmega, IntWalk.toNatUp, Nat.reduceEqDiff, Nat.reduceAdd, Nat.reduceMul, Nat.reduceSub, Nat.reduceLT, Nat.reduceLeDiff, Int.reduceToNat, Int.reduceLT, Int.reduceLE, Int.reduceEq, Int.reduceAdd, Int.reduceSub, Int.reduceMul, Int.toNat_natCast, reduceCtorEq, decide_true, decide_false, IntWalk.i64_in, IntWalk.u64_in, IntWalk.u8_in, hwi, e, buildN]
    refine join_loop k n l hpart X hp 4 _ _ _ _ (by omega) (by omega) rfl rfl rfl rfl rfl ⟨_, rfl, rfl⟩ rfl ?_
    rintro a o nx h2 ⟨v, ho2, hHS⟩
    simp (disch := omega) only [go_sem, ↓IntWalk.iteOmega, IntWalk.toNatUp, Nat.reduceEqDiff, Nat.reduceAdd, Nat.reduceMul, Nat.reduceSub, Nat.reduceLT, Nat.reduceLeDiff, Int.reduceToNat, Int.reduceLT, Int.reduceLE, Int.reduceEq, Int.reduceAdd, Int.reduceSub, Int.reduceMul, Int.toNat_natCast, reduceCtorEq, decide_true, decide_false, IntWalk.i64_in, IntWalk.u64_in, IntWalk.u8_in, h2, ho2]
    rw [hHS.view, nodeV, cNd_mk, slN, List.length_map, List.length_range, makeNs_length, view_cNds]
  · simp (disch := omega) only [go_sem, ↓IntWalk.iteOmega, IntWalk.toNatUp, Nat.reduceEqDiff, Nat.reduceAdd, Nat.reduceMul, Nat.reduceSub, Nat.reduceLT, Nat.reduceLeDiff, Int.reduceToNat, Int.reduceLT, Int.reduceLE, Int.reduceEq, Int.reduceAdd, Int.reduceSub, Int.reduceMul, Int.toNat_natCast, reduceCtorEq, decide_true, decide_false, IntWalk.i64_in, IntWalk.u64_in, IntWalk.u8_in, hwi, e, buildN]
    refine union_loop k n l hpart X hp 5 _ _ _ _ (by omega) (by omega) rfl rfl rfl rfl rfl ⟨_, rfl, rfl⟩ rfl ?_
    rintro a o nx h2 ⟨v, ho2, hHS⟩
    simp (disch := omega) only [go_sem, ↓IntWalk.iteOmega, IntWalk.toNatUp, Nat.reduceEqDiff, Nat.reduceAdd, Nat.reduceMul, Nat.reduceSub, Nat.reduceLT, Nat.reduceLeDiff, Int.reduceToNat, Int.reduceLT, Int.reduceLE, Int.reduceEq, Int.reduceAdd, Int.reduceSub, Int.reduceMul, Int.toNat_natCast, reduceCtorEq, decide_true, decide_false, IntWalk.i64_in, IntWalk.u64_in, IntWalk.u8_in, h2, ho2]
    rw [hHS.view, nodeV, cNd_mk, slN, List.length_map, List.length_range, makeNs_length, view_cNds]
  · simp (disch := omega) only [go_sem, ↓IntWalk.iteOmega, IntWalk.toNatUp, Nat.reduceEqDiff, Nat.reduceAdd, Nat.reduceMul, Nat.reduceSub, Nat.reduceLT, Nat.reduceLeDiff, Int.reduceToNat, Int.reduceLT, Int.reduceLE, Int.reduceEq, Int.reduceAdd, Int.reduceSub, Int.reduceMul, Int.toNat_natCast, reduceCtorEq, decide_true, decide_false, IntWalk.i64_in, IntWalk.u64_in, IntWalk.u8_in, hwi, e, buildN]
    refine union_loop k n l hpart X hp 5 _ _ _ _ (by omega) (by omega) rfl rfl rfl rfl rfl ⟨_, rfl, rfl⟩ rfl ?_
    rintro a o nx h2 ⟨v, ho2, hHS⟩
    simp (disch := omega) only [go_sem, ↓IntWalk.iteOmega, IntWalk.toNatUp, Nat.reduceEqDiff, Nat.reduceAdd, Nat.reduceMul, Nat.reduceSub, Nat.reduceLT, Nat.reduceLeDiff, Int.reduceToNat, Int.reduceLT, Int.reduceLE, Int.reduceEq, Int.reduceAdd, Int.reduceSub, Int.reduceMul, Int.toNat_natCast, reduceCtorEq, decide_true, decide_false, IntWalk.i64_in, IntWalk.u64_in, IntWalk.u8_in, h2, ho2]
    rw [hHS.view, nodeV, cNd_mk, slN, List.length_map, List.length_range, makeNs_length, view_cNds]
  · simp (disch := omega) only [go_sem, ↓IntWalk.iteOmega, IntWalk.toNatUp, Nat.reduceEqDiff, Nat.reduceAdd, Nat.reduceMul, Nat.reduceSub, Nat.reduceLT, Nat.reduceLeDiff, Int.reduceToNat, Int.reduceLT, Int.reduceLE, Int.reduceEq, Int.reduceAdd, Int.reduceSub, Int.reduceMul, Int.toNat_natCast, reduceCtorEq, decide_true, decide_false, IntWalk.i64_in, IntWalk.u64_in, IntWalk.u8_in, hwi, e, buildN, hp0]
    simp only [nodeV, cNd_mk, slN, cNds_one, List.length_cons, List.length_nil]
  · simp (disch := omega) only [go_sem, ↓IntWalk.iteOmega, IntWalk.toNatUp, Nat.reduceEqDiff, Nat.reduceAdd, Nat.reduceMul, Nat.reduceSub, Nat.reduceLT, Nat.reduceLeDiff, Int.reduceToNat, Int.reduceLT, Int.reduceLE, Int.reduceEq, Int.reduceAdd, Int.reduceSub, Int.reduceMul, Int.toNat_natCast, reduceCtorEq, decide_true, decide_false, IntWalk.i64_in, IntWalk.u64_in, IntWalk.u8_in, hwi, e, buildN, hp0]
    simp only [nodeV, cNd_mk, slN, cNds_one, List.length_cons, List.length_nil]
  · simp (disch := omega) only [go_sem, ↓IntWalk.iteOmega, IntWalk.toNatUp, Nat.reduceEqDiff, Nat.reduceAdd, Nat.reduceMul, Nat.reduceSub, Nat.reduceLT, Nat.reduceLeDiff, Int.reduceToNat, Int.reduceLT, Int.reduceLE, Int.reduceEq, Int.reduceAdd, Int.reduceSub, Int.reduceMul, Int.toNat_natCast, reduceCtorEq, decide_true, decide_false, IntWalk.i64_in, IntWalk.u64_in, IntWalk.u8_in, hwi, e, buildN, hp0]
    simp only [nodeV, cNd_mk, slN, cNds_one, List.length_cons, List.length_nil]
  · have h4 := Int.emod_nonneg n (show (4 : Int) ≠ 0 by decide)
    have h4' := Int.emod_lt_of_pos n (show (0 : Int) < 4 by decide)
    have h5 := Int.emod_nonneg (IntKind.i64.wrap (n.tdiv 4)) (show (3 : Int) ≠ 0 by decide)
    have h5' := Int.emod_lt_of_pos (IntKind.i64.wrap (n.tdiv 4)) (show (0 : Int) < 3 by decide)
    simp (disch := omega) only [go_sem, ↓IntWalk.iteOmega, IntWalk.toNatUp, Nat.reduceEqDiff, Nat.reduceAdd, Nat.reduceMul, Nat.reduceSub, Nat.reduceLT, Nat.reduceLeDiff, Int.reduceToNat, Int.reduceLT, Int.reduceLE, Int.reduceEq, Int.reduceAdd, Int.reduceSub, Int.reduceMul, Int.toNat_natCast, reduceCtorEq, decide_true, decide_false, IntWalk.i64_in, IntWalk.u64_in, IntWalk.u8_in, hwi, e, buildN, hp0, nz34]
    simp only [nodeV, cNd_mk, slN, cNds_one, List.length_cons, List.length_nil]
theorem rmake_ok : ∀ r : Rw, Ok Try.prog 34 [rawV r] (nodeV (makeN r))
  | .mk k n l => by
    rw [makeN]
    refine make1_ok k n l (fun i hi => part_ok k n l (fun j hj => ?_) i (by omega))
    have : SizeOf.sizeOf (l.getD j default) < 1 + SizeOf.sizeOf k + SizeOf.sizeOf n + SizeOf.sizeOf l := by
      rw [List.getD_eq_getElem?_getD, List.getElem?_eq_getElem hj, Option.getD_some]
      have := List.sizeOf_lt_of_mem (List.getElem_mem hj)
      omega
    exact rmake_ok (l.getD j default)
termination_by r => SizeOf.sizeOf r
decreasing_by
  simp only [Rw.mk.sizeOf_spec]; exact this
end Go.Proofs.Ytcaemgpificohaa.A
/- size, Few, One: of raw expressions. -/
namespace Go.Proofs.Ytcaemgpificohaa.A
open Go
set_option maxRecDepth 20000
def kids : Rw → List Rw
  | .mk _ _ l => l
def szStep (f : List Rw → Int) (n : Int) (r : Rw) : Int := if n ≤ 14 then n + 1 + f (kids r) else n
def szD : Nat → List Rw → Int
  | 0, _ => 1000
  | d + 1, l => l.foldl (szStep (szD d)) 0
theorem sz_stuck {f : List Rw → Int} {n : Int} (h : ¬ n ≤ 14) : ∀ l : List Rw, l.foldl (szStep f) n = n
  | [] => rfl
  | r :: l => by rw [List.foldl_cons, szStep, if_neg h]; exact sz_stuck h l
theorem sz_in : ∀ (d : Nat) (l : List Rw), 0 ≤ szD d l ∧ szD d l ≤ 1000 + 15 * d
  | 0, l => by rw [szD]; omega
  | d + 1, l => by
    rw [szD]
    have : ∀ (l : List Rw) (n : Int), 0 ≤ n → n ≤ 1000 + 15 * (d + 1) → 0 ≤ l.foldl (szStep (szD d)) n ∧ l.foldl (szStep (szD d)) n ≤ 1000 + 15 * (d + 1) := by
      intro l
      induction l with
      | nil => exact fun n h1 h2 => ⟨h1, h2⟩
      | cons r l ih =>
        intro n h1 h2
        rw [List.foldl_cons]
        have := sz_in d (kids r)
        refine ih _ ?_ ?_ <;> unfold szStep <;> split <;> omega
    have := this l 0 (by omega) (by omega)
    omega
def RSize (d : Nat) (args : List AV) (r : AV) : Prop := ∃ l, args = [slR l, .int .i64 (7 - d)] ∧ r = .int .i64 (szD d l)
theorem RSize_fn (d) : Fun1 (RSize d) := by
  rintro args r r' ⟨l, rfl, rfl⟩ ⟨l', h, rfl⟩
  simp only [List.cons.injEq, AV.sl.injEq, and_true] at h
  rw [cRws_inj h.2]
theorem lookSize (X) : lookedAt (EX md0 X) (fun _ => none) 2 Try.f31 = true := by kernel_rfl
theorem size_ok : ∀ (d : Nat) (l : List Rw), d ≤ 7 → Ok Try.prog 31 [slR l, .int .i64 (7 - d)] (.int .i64 (szD d l))
  | 0, l, _ => by
    refine ok_of_WP (E := EX md0 (fun _ _ => none)) (cr := noR) (cp_none _) (noR_ok _) mixed (k := 20) Try.func31 (lookSize _) rfl ?_
    simp only [Try.f31, Option.getD_some, szD]
    simp (disch := omega) only [go_sem, ↓IntWalk.iteOmega, IntWalk.toNatUp, Nat.reduceEqDiff, Nat.reduceAdd, Nat.reduceMul, Nat.reduceSub, Nat.reduceLT, Nat.reduceLeDiff, Int.reduceToNat, Int.reduceLT, Int.reduceLE, Int.reduceEq, Int.reduceAdd, Int.reduceSub, Int.reduceMul, Int.toNat_natCast, reduceCtorEq, decide_true, decide_false, IntWalk.i64_in, IntWalk.u64_in, IntWalk.u8_in]
  | d + 1, l, hd => by
    refine ok_of_WP (E := EX md0 (tabLook [(31, tRel (RSize d))])) (cr := noR) (tab_cons (tab_nil _) (tRel_ok (fun args r h => by obtain ⟨l, rfl, rfl⟩ := h; exact size_ok d l (by omega)))) (noR_ok _) mixed (k := 20) Try.func31 (lookSize _) rfl ?_
    have hX : ∀ l : List Rw, tabLook [(31, tRel (RSize d))] 31 [.sl l.length (cRws l), .int .i64 (7 - d)] = some (.int .i64 (szD d l)) := fun l => tRel_eq (RSize_fn d) ⟨l, rfl, rfl⟩
    simp only [Try.f31, Option.getD_some]
    have h7 : ¬ ((7 : Int) - (d + 1 : Nat) > 6) := by omega
    simp (disch := omega) only [go_sem, ↓IntWalk.iteOmega, IntWalk.toNatUp, Nat.reduceEqDiff, Nat.reduceAdd, Nat.reduceMul, Nat.reduceSub, Nat.reduceLT, Nat.reduceLeDiff, Int.reduceToNat, Int.reduceLT, Int.reduceLE, Int.reduceEq, Int.reduceAdd, Int.reduceSub, Int.reduceMul, Int.toNat_natCast, reduceCtorEq, decide_true, decide_false, IntWalk.i64_in, IntWalk.u64_in, IntWalk.u8_in, h7]
    have hend : ∀ i, l.foldl (szStep (szD d)) 0 = (l.drop i).foldl (szStep (szD d)) ((l.take i).foldl (szStep (szD d)) 0) := fun i => by rw [← List.foldl_append, List.take_append_drop]
    refine WP_loop (fun m a o nx => ∃ (i : Nat) (s : Int), i ≤ l.length ∧ m = (15 - s).toNat ∧ a 0 = slR l ∧ a 1 = .int .i64 (7 - (d + 1 : Nat)) ∧ a 5 = .int .i64 s ∧ a 6 = .int .i64 i ∧ s = (l.take i).foldl (szStep (szD d)) 0 ∧ (i : Int) ≤ s ∧ s ≤ 2000) 15 (by omega) ⟨0, 0, by omega, rfl, by simp (disch := omega) only [go_sem, ↓IntWalk.iteOmega, IntWalk.toNatUp, Nat.reduceEqDiff, Nat.reduceAdd, Nat.reduceMul, Nat.reduceSub, Nat.reduceLT, Nat.reduceLeDiff, Int.reduceToNat, Int.reduceLT, Int.reduceLE, Int.reduceEq, Int.reduceAdd, Int.reduceSub, Int.reduceMul, Int.toNat_natCast, reduceCtorEq, decide_true, decide_false, IntWalk.i64_in, IntWalk.u64_in, IntWalk.u8_in], by simp (disch := omega) only [go_sem, ↓IntWalk.iteOmega, IntWalk.toNatUp, Nat.reduceEqDiff, Nat.reduceAdd, Nat.reduceMul, Nat.reduceSub, Nat.reduceLT, Nat.reduceLeDiff, Int.reduceToNat, Int.reduceLT, Int.reduceLE, Int.reduceEq, Int.reduceAdd, Int.reduceSub, Int.reduceMul, Int.toNat_natCast, reduceCtorEq, decide_true, decide_false, IntWalk.i64_in, IntWalk.u64_in, IntWalk.u8_in], by simp (disch := omega) only [go_sem, ↓IntWalk.iteOmega, IntWalk.toNatUp, Nat.reduceEqDiff, Nat.reduceAdd, Nat.reduceMul, Nat.reduceSub, Nat.reduceLT, Nat.reduceLeDiff, Int.reduceToNat, Int.reduceLT, Int.reduceLE, Int.reduceEq, Int.reduceAdd, Int.reduceSub, Int.reduceMul, Int.toNat_natCast, reduceCtorEq, decide_true, decide_false, IntWalk.i64_in, IntWalk.u64_in, IntWalk.u8_in], by simp (disch := omega) only [go_sem, ↓IntWalk.iteOmega, IntWalk.toNatUp, Nat.reduceEqDiff, Nat.reduceAdd, Nat.reduceMul, Nat.reduceSub, Nat.reduceLT, Nat.reduceLeDiff, Int.reduceToNat, Int.reduceLT, Int.reduceLE, Int.reduceEq, Int.reduceAdd, Int.reduceSub, Int.reduceMul, Int.toNat_natCast, reduceCtorEq, decide_true, decide_false, IntWalk.i64_in, IntWalk.u64_in, IntWalk.u8_in], rfl, by omega, by omega⟩ ?_
    rintro m a o nx ⟨i, s, hi, rfl, h0, h1, h5, h6, hs, hs0, hs1⟩
    have hi6 : (7 : Int) - (d + 1 : Nat) + 1 = 7 - d := by omega
    by_cases hlt : i < l.length
    · have hat := cRws_at hlt
      have htk : (l.take (i + 1)).foldl (szStep (szD d)) 0 = szStep (szD d) s (l.getD i default) := by rw [List.take_succ_eq_append_getElem hlt, List.foldl_append, ← hs, List.getD_eq_getElem?_getD, List.getElem?_eq_getElem hlt]; rfl
      obtain ⟨k, n, ch, hch⟩ : ∃ k n ch, l.getD i default = .mk k n ch := by cases l.getD i default with | mk k n ch => exact ⟨_, _, _, rfl⟩
      have hsz := sz_in d ch
      by_cases h14 : s ≤ 14
      · rw [hch, szStep, if_pos h14] at htk
        rw [hch] at hat
        have hx := hX ch
        simp (disch := omega) only [go_sem, ↓IntWalk.iteOmega, IntWalk.toNatUp, Nat.reduceEqDiff, Nat.reduceAdd, Nat.reduceMul, Nat.reduceSub, Nat.reduceLT, Nat.reduceLeDiff, Int.reduceToNat, Int.reduceLT, Int.reduceLE, Int.reduceEq, Int.reduceAdd, Int.reduceSub, Int.reduceMul, Int.toNat_natCast, reduceCtorEq, decide_true, decide_false, IntWalk.i64_in, IntWalk.u64_in, IntWalk.u8_in, h0, h1, h5, h6, hat, hx, hi6]
        exact ⟨_, by omega, i + 1, _, by omega, rfl, rfl, rfl, by rw [htk]; rfl, by omega, by omega⟩
      · simp (disch := omega) only [go_sem, ↓IntWalk.iteOmega, IntWalk.toNatUp, Nat.reduceEqDiff, Nat.reduceAdd, Nat.reduceMul, Nat.reduceSub, Nat.reduceLT, Nat.reduceLeDiff, Int.reduceToNat, Int.reduceLT, Int.reduceLE, Int.reduceEq, Int.reduceAdd, Int.reduceSub, Int.reduceMul, Int.toNat_natCast, reduceCtorEq, decide_true, decide_false, IntWalk.i64_in, IntWalk.u64_in, IntWalk.u8_in, h0, h1, h5, h6]
        rw [szD, hend i, ← hs, sz_stuck h14]
    · simp (disch := omega) only [go_sem, ↓IntWalk.iteOmega, IntWalk.toNatUp, Nat.reduceEqDiff, Nat.reduceAdd, Nat.reduceMul, Nat.reduceSub, Nat.reduceLT, Nat.reduceLeDiff, Int.reduceToNat, Int.reduceLT, Int.reduceLE, Int.reduceEq, Int.reduceAdd, Int.reduceSub, Int.reduceMul, Int.toNat_natCast, reduceCtorEq, decide_true, decide_false, IntWalk.i64_in, IntWalk.u64_in, IntWalk.u8_in, h0, h1, h5, h6]
      rw [szD, hend i, ← hs, List.drop_of_length_le (by omega)]
      rfl
def fewR (l : List Rw) : Bool := decide (szD 7 l ≤ 14)
theorem lookFew4 (X) : lookedAt (EX md0 X) (fun _ => none) 1 Try.f13 = true := by kernel_rfl
theorem few4_ok (l : List Rw) : Ok Try.prog 13 [slR l] (.bool (fewR l)) := by
  refine ok_of_WP (E := EX md0 (tabLook [(31, tRel (RSize 7))])) (cr := noR) (tab_cons (tab_nil _) (tRel_ok (fun args r h => by obtain ⟨l, rfl, rfl⟩ := h; exact size_ok 7 l (by omega)))) (noR_ok _) mixed (k := 0) Try.func13 (lookFew4 _) rfl ?_
  have hX : tabLook [(31, tRel (RSize 7))] 31 [.sl l.length (cRws l), .int .i64 0] = some (.int .i64 (szD 7 l)) := tRel_eq (RSize_fn 7) ⟨l, rfl, rfl⟩
  simp only [Try.f13, Option.getD_some]
  simp (disch := omega) only [go_sem, ↓IntWalk.iteOmega, IntWalk.toNatUp, Nat.reduceEqDiff, Nat.reduceAdd, Nat.reduceMul, Nat.reduceSub, Nat.reduceLT, Nat.reduceLeDiff, Int.reduceToNat, Int.reduceLT, Int.reduceLE, Int.reduceEq, Int.reduceAdd, Int.reduceSub, Int.reduceMul, Int.toNat_natCast, reduceCtorEq, decide_true, decide_false, IntWalk.i64_in, IntWalk.u64_in, IntWalk.u8_in, hX]
  rfl
def oneN (l : List Rw) : Nd := match l with | [] => .mk 1 1 0 0 [] | r :: _ => makeN r
def RMakeN (args : List AV) (r : AV) : Prop := ∃ x, args = [rawV x] ∧ r = nodeV (makeN x)
theorem RMakeN_fn : Fun1 RMakeN := by
  rintro args r r' ⟨i, rfl, rfl⟩ ⟨j, h, rfl⟩
  simp only [List.cons.injEq, AV.agg.injEq, and_true] at h
  rw [cRw_inj h]
theorem lookOne (X) : lookedAt (EX md0 X) (fun _ => none) 1 Try.f15 = true := by kernel_rfl
theorem one_ok (l : List Rw) : Ok Try.prog 15 [slR l] (nodeV (oneN l)) := by
  refine ok_of_WP (E := EX md0 (tabLook [(34, tRel RMakeN)])) (cr := noR) (tab_cons (tab_nil _) (tRel_ok (fun args r h => by obtain ⟨l, rfl, rfl⟩ := h; exact rmake_ok l))) (noR_ok _) mixed (k := 0) Try.func15 (lookOne _) rfl ?_
  simp only [Try.f15, Option.getD_some]
  cases l with
  | nil =>
    simp (disch := omega) only [go_sem, ↓IntWalk.iteOmega, IntWalk.toNatUp, Nat.reduceEqDiff, Nat.reduceAdd, Nat.reduceMul, Nat.reduceSub, Nat.reduceLT, Nat.reduceLeDiff, Int.reduceToNat, Int.reduceLT, Int.reduceLE, Int.reduceEq, Int.reduceAdd, Int.reduceSub, Int.reduceMul, Int.toNat_natCast, reduceCtorEq, decide_true, decide_false, IntWalk.i64_in, IntWalk.u64_in, IntWalk.u8_in]
    simp only [nodeV, oneN, cNd_mk, slN, cNds_nil, List.length_nil]
  | cons r l =>
    have hX : tabLook [(34, tRel RMakeN)] 34 [.agg (cRw r)] = some (nodeV (makeN r)) := tRel_eq RMakeN_fn ⟨r, rfl, rfl⟩
    have hat := cRws_cons r l
    simp (disch := omega) only [go_sem, ↓IntWalk.iteOmega, IntWalk.toNatUp, Nat.reduceEqDiff, Nat.reduceAdd, Nat.reduceMul, Nat.reduceSub, Nat.reduceLT, Nat.reduceLeDiff, Int.reduceToNat, Int.reduceLT, Int.reduceLE, Int.reduceEq, Int.reduceAdd, Int.reduceSub, Int.reduceMul, Int.toNat_natCast, reduceCtorEq, decide_true, decide_false, IntWalk.i64_in, IntWalk.u64_in, IntWalk.u8_in, hX, hat]
    rfl
end Go.Proofs.Ytcaemgpificohaa.A
/- The builder: what it makes; its small methods. -/
namespace Go.Proofs.Ytcaemgpificohaa.A
open Go
set_option maxRecDepth 20000
structure BS where
  n : Nat
  s : List (Int × Int × Int)
  f : List (Int × Int)
abbrev BF := BS → (Int × Int) × BS
def BS.state (b : BS) : BS := { b with n := b.n + 1 }
def BS.free (b : BS) (x y : Int) : BS := { b with f := b.f ++ [(x, y)] }
def BS.frees (b : BS) (l : List (Int × Int)) : BS := { b with f := b.f ++ l }
def BS.step (b : BS) (x y v : Int) : BS := { b with s := b.s ++ [(x, y, v)] }
def bParts : List BF → BS → List (Int × Int) → List (Int × Int) × BS
  | [], b, out => (out, b)
  | f :: fs, b, out => if b.n > 1000 then ([], b) else bParts fs (f b).2 (out ++ [(f b).1])
def bOnce (f : BF) (around back : Bool) (b : BS) : (Int × Int) × BS :=
  let r := f b.state
  ((b.n, r.2.n), r.2.state.frees ([((b.n : Int), r.1.1)] ++ (if around then [((b.n : Int), (r.2.n : Int))] else []) ++ (if back then [(r.1.2, r.1.1)] else []) ++ [(r.1.2, (r.2.n : Int))]))
def links : List (Int × Int) → List (Int × Int)
  | p :: q :: l => (p.2, q.1) :: links (q :: l)
  | _ => []
def bJoin (fs : List BF) (b : BS) : (Int × Int) × BS :=
  let r := bParts fs b []
  if r.2.n > 1000 ∨ r.1 = [] then ((0, 0), r.2) else (((r.1.headD (0, 0)).1, (r.1.getLastD (0, 0)).2), r.2.frees (links r.1))
def bUnion (fs : List BF) (b : BS) : (Int × Int) × BS :=
  let r := bParts fs b.state []
  ((b.n, r.2.n), r.2.state.frees (r.1.flatMap fun p => [((b.n : Int), p.1), (p.2, (r.2.n : Int))]))
/-- What leads on from the parts of a times, from the i-th one on. -/
def rLinks (lo : Int) (e : Int) : Nat → List (Int × Int) → List (Int × Int)
  | _, [] => []
  | _, [p] => [(p.2, e)]
  | i, p :: q :: l => (if (i : Int) + 1 ≥ lo then [(p.2, e)] else []) ++ (p.2, q.1) :: rLinks lo e (i + 1) (q :: l)
def headL (n : Int) : List (Int × Int) → List (Int × Int)
  | [] => []
  | p :: _ => [(n, p.1)]
def bRepeat (lo : Int) (hi : Nat) (f : BF) (b : BS) : (Int × Int) × BS :=
  let r := bParts (List.replicate hi f) b.state []
  if r.2.state.n > 1000 then ((b.n, r.2.n), r.2.state)
  else ((b.n, r.2.n), r.2.state.frees (headL b.n r.1 ++ rLinks lo r.2.n 0 r.1 ++ (if lo = 0 then [((b.n : Int), (r.2.n : Int))] else [])))
def bLeaf (kind set : Int) (b : BS) : (Int × Int) × BS :=
  ((b.n, b.n + 1), if kind = 1 then b.state.state.step b.n (b.n + 1) set else if kind = 3 then b.state.state.free b.n (b.n + 1) else b.state.state)
def bNode (kind set lo hi : Int) (fs : List BF) : BF :=
  if kind = 4 then bJoin fs
  else if kind = 5 then bUnion fs
  else if kind = 6 then bOnce (fs.headD (fun b => ((0, 0), b))) true true
  else if kind = 7 then bOnce (fs.headD (fun b => ((0, 0), b))) false true
  else if kind = 8 then bOnce (fs.headD (fun b => ((0, 0), b))) true false
  else if kind = 9 then bRepeat lo hi.toNat (fs.headD (fun b => ((0, 0), b)))
  else bLeaf kind set
mutual
def bPart : Nd → BF
  | .mk kind set lo hi l => bNode kind set lo hi (bPartL l)
def bPartL : List Nd → List BF
  | [] => []
  | x :: l => bPart x :: bPartL l
end
/-! ### the builder's row -/
structure BRow (o : Ob) (nx : Nat) (t : Nat) (b : BS) (vS vF : AV) : Prop where
  lt : t < nx
  row : o (t, 8) = some (.row ⟨63, 1, (t, 8), false, true, [.int .i64 b.n, .int .i64 0, .int .i64 0, vS, vF]⟩)
  s : HS 48 3 139 o nx vS b.s.length (cS b.s)
  f : HS 49 2 16 o nx vF b.f.length (cP b.f)
def BAt (o : Ob) (nx : Nat) (t : Nat) (b : BS) : Prop := ∃ vS vF, BRow o nx t b vS vF
/-- What stays. -/
def BKeep (t : Nat) (o : Ob) (nx : Nat) (o' : Ob) : Prop := ∀ i j, i < nx → (j = 8 → i ≠ t) → j ≠ 139 → j ≠ 16 → o' (i, j) = o (i, j)
theorem BKeep.refl (t o nx) : BKeep t o nx o := fun _ _ _ _ _ _ => rfl
theorem BKeep.trans {t o nx o' nx' o''} (h1 : BKeep t o nx o') (h2 : BKeep t o' nx' o'') (h : nx ≤ nx') : BKeep t o nx o'' := fun i j a b c d => by rw [h2 i j (by omega) b c d, h1 i j a b c d]
/-- What a method does: from one state to the next. -/
def BTo (t : Nat) (b' : BS) (H H' : AH) : Prop := H.nx ≤ H'.nx ∧ BAt H'.o H'.nx t b' ∧ BKeep t H.o H.nx H'.o
abbrev bp (t : Nat) : AV := .ptr (t, 8) (t, 8) 0
theorem bkeep_upd {t : Nat} {o : Ob} {nx : Nat} {x : AObj} : BKeep t o nx (upd o (t, 8) x) := fun i j hi h1 h2 h3 => upd_ne _ _ _ _ (fun e => by injection e with e1 e2; exact h1 e2 e1)
def RState (args : List AV) (H : AH) (v : AV) (H' : AH) : Prop := OkR Try.prog 50 args H v H' ∧ ∀ t b, args = [bp t] → BAt H.o H.nx t b → v = .int .i64 b.n ∧ BTo t b.state H H'
theorem lookBState (X) : lookedAt (EX md0 X) (fun _ => none) 1 Try.f50 = true := by kernel_rfl
theorem BRow.same {o nx t b vS vF} (h : BRow o nx t b vS vF) {b' vS' vF'} (h' : BRow o nx t b' vS' vF') : b.n = b'.n ∧ vS = vS' ∧ vF = vF' := by
  have := h.row.symm.trans h'.row
  simp only [Option.some.injEq, AObj.row.injEq, Row.mk.injEq, List.cons.injEq, AV.int.injEq, and_true, true_and] at this
  exact ⟨by omega, this.2⟩
theorem HS.same {e sz D o nx v n cs n' cs'} (h : HS e sz D o nx v n cs) (h' : HS e sz D o nx v n' cs') : cs = cs' := by
  rcases h with ⟨rfl, rfl, rfl⟩ | ⟨i, g, rfl, _, h3, _⟩
  · rcases h' with ⟨_, _, rfl⟩ | ⟨_, _, h, _⟩
    · rfl
    · cases h
  · rcases h' with ⟨h, _⟩ | ⟨_, _, h, _, h3', _⟩
    · cases h
    · injection h with h1 h2
      rw [← h1, ← h2, h3] at h3'
      simp only [Option.some.injEq, AObj.row.injEq, Row.mk.injEq, true_and] at h3'
      exact h3'
theorem BAt.same {o nx t b} (h : BAt o nx t b) {b'} (h' : BAt o nx t b') : b = b' := by
  obtain ⟨vS, vF, h⟩ := h
  obtain ⟨vS', vF', h'⟩ := h'
  obtain ⟨e1, rfl, rfl⟩ := h.same h'
  have e2 := cS_inj (h.s.same h'.s)
  have e3 := cP_inj (h.f.same h'.f)
  cases b; cases b'
  simp only at e1 e2 e3
  rw [e1, e2, e3]
theorem bstate_ok {t : Nat} {o : Ob} {nx : Nat} {b : BS} (h : BAt o nx t b) (hn : b.n ≤ 10000000) : ∃ v H', RState [bp t] ⟨o, nx⟩ v H' := by
  have hh := h
  obtain ⟨vS, vF, h⟩ := h
  obtain ⟨v, H', h1, h2⟩ := okR_of_WP (E := EX md0 (fun _ _ => none)) (cr := noR) (cp_none _) (noR_ok _) mixed (k := 0) (args := [bp t]) (o := o) (nx := nx) (Post := fun v o' nx' => v = .int .i64 b.n ∧ BTo t b.state ⟨o, nx⟩ ⟨o', nx'⟩) Try.func50 (lookBState _) rfl (by
    have h1 := h.lt
    have h2 := h.row
    have h3 := h.s.ok
    have h4 := h.f.ok
    simp only [Try.f50, Option.getD_some]
    simp (disch := omega) only [go_sem, ↓IntWalk.iteOmega, IntWalk.toNatUp, Nat.reduceEqDiff, Nat.reduceAdd, Nat.reduceMul, Nat.reduceSub, Nat.reduceLT, Nat.reduceLeDiff, Int.reduceToNat, Int.reduceLT, Int.reduceLE, Int.reduceEq, Int.reduceAdd, Int.reduceSub, Int.reduceMul, Int.toNat_natCast, reduceCtorEq, decide_true, decide_false, IntWalk.i64_in, IntWalk.u64_in, IntWalk.u8_in, h2, h3, h4]
    refine ⟨by rw [Int.add_sub_cancel], by show nx ≤ nx + 1 + 1 + 1; omega, ⟨vS, vF, ⟨by show t < nx + 1 + 1 + 1; omega, ?_, h.s.keep (fun _ _ => by simp [upd_app]) (by show nx ≤ nx + 1 + 1 + 1; omega), h.f.keep (fun _ _ => by simp [upd_app]) (by show nx ≤ nx + 1 + 1 + 1; omega)⟩⟩, bkeep_upd⟩
    exact upd_same _ _ _)
  refine ⟨v, H', h1, fun t' b' e hb => ?_⟩
  simp only [List.cons.injEq, AV.ptr.injEq, Prod.mk.injEq, and_true] at e
  obtain rfl := e.1
  rw [← hh.same hb]
  exact h2
theorem state_call {t : Nat} {o : Ob} {nx : Nat} {b : BS} {K : AV × AH → Prop} (h : BAt o nx t b) (hn : b.n ≤ 10000000) (hK : ∀ o' nx', nx ≤ nx' → BAt o' nx' t b.state → BKeep t o nx o' → K (.int .i64 b.n, ⟨o', nx'⟩)) :
    wO (Option.map (fun p => freezeR false p.1 p.2) (cRel RState [bp t] ⟨o, nx⟩)) K := by
  refine cRel_call (bstate_ok h hn) fun v H' hr => ?_
  obtain ⟨rfl, h1, h2, h3⟩ := hr.2 t b rfl h
  exact hK H'.o H'.nx h1 h2 h3
def RFull (args : List AV) (H : AH) (v : AV) (H' : AH) : Prop := OkR Try.prog 33 args H v H' ∧ ∀ t b, args = [bp t] → BAt H.o H.nx t b → v = .bool (decide (1000 < (b.n : Int))) ∧ BTo t b H H'
theorem lookBFull (X) : lookedAt (EX md0 X) (fun _ => none) 1 Try.f33 = true := by kernel_rfl
theorem bfull_ok {t : Nat} {o : Ob} {nx : Nat} {b : BS} (h : BAt o nx t b) : ∃ v H', RFull [bp t] ⟨o, nx⟩ v H' := by
  have hh := h
  obtain ⟨vS, vF, h⟩ := h
  obtain ⟨v, H', h1, h2⟩ := okR_of_WP (E := EX md0 (fun _ _ => none)) (cr := noR) (cp_none _) (noR_ok _) mixed (k := 0) (args := [bp t]) (o := o) (nx := nx) (Post := fun v o' nx' => v = .bool (decide (1000 < (b.n : Int))) ∧ BTo t b ⟨o, nx⟩ ⟨o', nx'⟩) Try.func33 (lookBFull _) rfl (by
    have h2 := h.row
    simp only [Try.f33, Option.getD_some]
    simp (disch := omega) only [go_sem, ↓IntWalk.iteOmega, IntWalk.toNatUp, Nat.reduceEqDiff, Nat.reduceAdd, Nat.reduceMul, Nat.reduceSub, Nat.reduceLT, Nat.reduceLeDiff, Int.reduceToNat, Int.reduceLT, Int.reduceLE, Int.reduceEq, Int.reduceAdd, Int.reduceSub, Int.reduceMul, Int.toNat_natCast, reduceCtorEq, decide_true, decide_false, IntWalk.i64_in, IntWalk.u64_in, IntWalk.u8_in, h2]
    exact ⟨by show nx ≤ nx + 1 + 1; omega, ⟨vS, vF, ⟨by have := h.lt; show t < nx + 1 + 1; omega, h2, h.s.keep (fun _ _ => rfl) (by show nx ≤ nx + 1 + 1; omega), h.f.keep (fun _ _ => rfl) (by show nx ≤ nx + 1 + 1; omega)⟩⟩, BKeep.refl _ _ _⟩)
  refine ⟨v, H', h1, fun t' b' e hb => ?_⟩
  simp only [List.cons.injEq, AV.ptr.injEq, Prod.mk.injEq, and_true] at e
  obtain rfl := e.1
  rw [← hh.same hb]
  exact h2
theorem full_call {t : Nat} {o : Ob} {nx : Nat} {b : BS} {K : AV × AH → Prop} (h : BAt o nx t b) (hK : ∀ o' nx', nx ≤ nx' → BAt o' nx' t b → BKeep t o nx o' → K (.bool (decide (1000 < (b.n : Int))), ⟨o', nx'⟩)) :
    wO (Option.map (fun p => freezeR false p.1 p.2) (cRel RFull [bp t] ⟨o, nx⟩)) K := by
  refine cRel_call (bfull_ok h) fun v H' hr => ?_
  obtain ⟨rfl, h1, h2, h3⟩ := hr.2 t b rfl h
  exact hK H'.o H'.nx h1 h2 h3
def RFree (args : List AV) (H : AH) (v : AV) (H' : AH) : Prop := OkR Try.prog 49 args H v H' ∧ ∀ t b x y, args = [bp t, .int .i64 x, .int .i64 y] → BAt H.o H.nx t b → v = .tup [] ∧ BTo t (b.free x y) H H'
theorem lookBFree (X) : lookedAt (EX md0 X) (fun _ => none) 3 Try.f49 = true := by kernel_rfl
theorem bfree_ok {t : Nat} {o : Ob} {nx : Nat} {b : BS} (h : BAt o nx t b) (x y : Int) (hn : b.f.length ≤ 100000000) : ∃ v H', RFree [bp t, .int .i64 x, .int .i64 y] ⟨o, nx⟩ v H' := by
  have hh := h
  obtain ⟨vS, vF, h⟩ := h
  obtain ⟨v, H', h1, h2⟩ := okR_of_WP (E := EX md0 (fun _ _ => none)) (cr := noR) (cp_none _) (noR_ok _) mixed (k := 0) (args := [bp t, .int .i64 x, .int .i64 y]) (o := o) (nx := nx) (Post := fun v o' nx' => v = .tup [] ∧ BTo t (b.free x y) ⟨o, nx⟩ ⟨o', nx'⟩) Try.func49 (lookBFree _) rfl (by
    have h0 := h.lt
    have h2 := h.row
    have h3 := h.s.ok
    have h4 := h.f.ok
    have hs := h.s
    simp only [Try.f49, Option.getD_some]
    rcases h.f with ⟨rfl, e2, e3⟩ | ⟨i1, g1, rfl, hi1, hrow, hlen⟩
    · simp (disch := omega) only [go_sem, ↓IntWalk.iteOmega, IntWalk.toNatUp, Nat.reduceEqDiff, Nat.reduceAdd, Nat.reduceMul, Nat.reduceSub, Nat.reduceLT, Nat.reduceLeDiff, Int.reduceToNat, Int.reduceLT, Int.reduceLE, Int.reduceEq, Int.reduceAdd, Int.reduceSub, Int.reduceMul, Int.toNat_natCast, reduceCtorEq, decide_true, decide_false, IntWalk.i64_in, IntWalk.u64_in, IntWalk.u8_in, h2, h3, h4]
      refine ⟨rfl, by show nx ≤ nx + 1; omega, ⟨vS, _, ⟨by show t < nx + 1; omega, upd_same _ _ _, hs.keep (fun _ _ => by simp [upd_app]) (by show nx ≤ nx + 1; omega), .inr ⟨nx, (nx, 16), by simp [BS.free, e2], by show _ < nx + 1; omega, ?_, ?_⟩⟩⟩, ?_⟩
      · simp [upd_app, BS.free, cP, List.length_eq_zero_iff.1 e2]
      · simp [BS.free, cP_length]
      · intro i j hi a1 a2 a3
        have : i ≠ nx := by have : i < nx := hi; omega
        simp (disch := omega) [upd_app, this, a3, a2]
        intro hj
        have := a1 hj
        simp [this, hj]
    · simp (disch := omega) only [go_sem, ↓IntWalk.iteOmega, IntWalk.toNatUp, Nat.reduceEqDiff, Nat.reduceAdd, Nat.reduceMul, Nat.reduceSub, Nat.reduceLT, Nat.reduceLeDiff, Int.reduceToNat, Int.reduceLT, Int.reduceLE, Int.reduceEq, Int.reduceAdd, Int.reduceSub, Int.reduceMul, Int.toNat_natCast, reduceCtorEq, decide_true, decide_false, IntWalk.i64_in, IntWalk.u64_in, IntWalk.u8_in, h2, h3, h4, hrow]
      refine ⟨rfl, by show nx ≤ nx + 1; omega, ⟨vS, _, ⟨by show t < nx + 1; omega, upd_same _ _ _, hs.keep (fun _ _ => by simp [upd_app]) (by show nx ≤ nx + 1; omega), .inr ⟨i1, (nx, 16), by simp [BS.free], by show _ < nx + 1; omega, ?_, ?_⟩⟩⟩, ?_⟩
      · simp [upd_app, BS.free, cP]
      · simp [BS.free, cP_length]
      · intro i j hi a1 a2 a3
        have : i ≠ nx := by have : i < nx := hi; omega
        simp (disch := omega) [upd_app, this, a3, a2]
        intro hj
        have := a1 hj
        simp [this, hj])
  refine ⟨v, H', h1, fun t' b' x' y' e hb => ?_⟩
  simp only [List.cons.injEq, AV.ptr.injEq, Prod.mk.injEq, AV.int.injEq, and_true, true_and] at e
  obtain ⟨⟨rfl, _⟩, rfl, rfl⟩ := e
  rw [← hh.same hb]
  exact h2
theorem free_call {t : Nat} {o : Ob} {nx : Nat} {b : BS} {K : AV × AH → Prop} (h : BAt o nx t b) (x y : Int) (hn : b.f.length ≤ 100000000) (hK : ∀ o' nx', nx ≤ nx' → BAt o' nx' t (b.free x y) → BKeep t o nx o' → K (.tup [], ⟨o', nx'⟩)) :
    wO (Option.map (fun p => freezeR false p.1 p.2) (cRel RFree [bp t, .int .i64 x, .int .i64 y] ⟨o, nx⟩)) K := by
  refine cRel_call (bfree_ok h x y hn) fun v H' hr => ?_
  obtain ⟨rfl, h1, h2, h3⟩ := hr.2 t b x y rfl h
  exact hK H'.o H'.nx h1 h2 h3
end Go.Proofs.Ytcaemgpificohaa.A
/- The builder: its bounds. -/
namespace Go.Proofs.Ytcaemgpificohaa.A
open Go
set_option maxRecDepth 20000
structure Bd (h : Nat) (f : BF) (b : BS) : Prop where
  lo : b.n ≤ (f b).2.n
  hi : (f b).2.n ≤ max b.n 1000 + 2 * h
  f4 : (f b).2.f.length + 4 * b.n ≤ b.f.length + 4 * (f b).2.n
  s1 : (f b).2.s.length + b.n ≤ b.s.length + (f b).2.n
  str : b.n ≤ 1000 → (f b).2.f.length + 4 * b.n + 4 ≤ b.f.length + 4 * (f b).2.n
structure BdL (h : Nat) (k : Nat) (b : BS) (out : List (Int × Int)) (r : List (Int × Int) × BS) : Prop where
  lo : b.n ≤ r.2.n
  hi : r.2.n ≤ max b.n (1000 + 2 * h)
  f4 : r.2.f.length + 4 * b.n ≤ b.f.length + 4 * r.2.n
  s1 : r.2.s.length + b.n ≤ b.s.length + r.2.n
  str : r.1 = [] ∨ (r.1.length = out.length + k ∧ r.2.f.length + 4 * b.n + 4 * k ≤ b.f.length + 4 * r.2.n)
  str1 : b.n ≤ 1000 → 0 < k → r.2.f.length + 4 * b.n + 4 ≤ b.f.length + 4 * r.2.n
theorem parts_bd {h : Nat} : ∀ (fs : List BF) (b : BS) (out : List (Int × Int)), (∀ f ∈ fs, ∀ b, Bd h f b) → BdL h fs.length b out (bParts fs b out)
  | [], b, out, _ => ⟨Nat.le_refl _, by show b.n ≤ _; omega, Nat.le_refl _, Nat.le_refl _, .inr ⟨rfl, Nat.le_refl _⟩, fun _ h => absurd h (by simp)⟩
  | f :: fs, b, out, hf => by
    unfold bParts
    split
    · exact ⟨Nat.le_refl _, by show b.n ≤ _; omega, Nat.le_refl _, Nat.le_refl _, .inl rfl, fun h => absurd h (by omega)⟩
    · rename_i hn
      have h1 := hf f (List.mem_cons_self) b
      have h2 := parts_bd fs (f b).2 (out ++ [(f b).1]) (fun g hg => hf g (List.mem_cons_of_mem _ hg))
      have h3 := h1.str (by omega)
      refine ⟨Nat.le_trans h1.lo h2.lo, ?_, ?_, ?_, ?_, fun _ _ => by have := h2.f4; omega⟩
      · have := h2.hi; have := h1.hi; omega
      · have := h2.f4; have := h1.f4; omega
      · have := h2.s1; have := h1.s1; omega
      · rcases h2.str with e | ⟨e1, e2⟩
        · exact .inl e
        · refine .inr ⟨by rw [e1]; simp; omega, ?_⟩
          rw [List.length_cons]
          omega
theorem once_bd {h : Nat} {f : BF} (hf : ∀ b, Bd h f b) (x y : Bool) (b : BS) : Bd (h + 1) (bOnce f x y) b := by
  have h1 := hf b.state
  have e1 : (bOnce f x y b).2.n = (f b.state).2.n + 1 := rfl
  have e2 : (bOnce f x y b).2.f.length ≤ (f b.state).2.f.length + 4 := by
    show List.length (_ ++ _) ≤ _
    simp only [List.length_append, List.length_cons, List.length_nil]
    cases x <;> cases y <;> simp [BS.state]
  have e3 : (bOnce f x y b).2.s.length = (f b.state).2.s.length := rfl
  have e4 : b.state.n = b.n + 1 := rfl
  have e5 : b.state.f.length = b.f.length := rfl
  have e6 : b.state.s.length = b.s.length := rfl
  have := h1.lo; have := h1.hi; have := h1.f4; have := h1.s1
  exact ⟨by omega, by omega, by omega, by omega, fun _ => by omega⟩
theorem links_len : ∀ l : List (Int × Int), (links l).length = l.length - 1
  | [] => rfl
  | [_] => rfl
  | p :: q :: l => by rw [links, List.length_cons, links_len (q :: l)]; simp
theorem rLinks_len (lo e : Int) : ∀ (i : Nat) (l : List (Int × Int)), (rLinks lo e i l).length ≤ 2 * l.length
  | _, [] => by simp [rLinks]
  | _, [_] => by simp [rLinks]
  | i, p :: q :: l => by
    have := rLinks_len lo e (i + 1) (q :: l)
    rw [rLinks, List.length_append, List.length_cons]
    simp only [List.length_cons] at this ⊢
    split <;> simp <;> omega
theorem join_bd {h : Nat} {fs : List BF} (hf : ∀ f ∈ fs, ∀ b, Bd h f b) (h0 : 0 < fs.length) (h1 : 1 ≤ h) (b : BS) : Bd (h + 1) (bJoin fs) b := by
  have hp := parts_bd fs b [] hf
  have := hp.lo; have := hp.hi; have := hp.f4; have := hp.s1
  have key : (bJoin fs b).2.n = (bParts fs b []).2.n ∧ (bJoin fs b).2.s = (bParts fs b []).2.s ∧ ((bJoin fs b).2.f.length = (bParts fs b []).2.f.length ∧ ((bParts fs b []).1 = [] ∨ 1000 < (bParts fs b []).2.n) ∨ (bParts fs b []).1 ≠ [] ∧ (bJoin fs b).2.f.length = (bParts fs b []).2.f.length + ((bParts fs b []).1.length - 1)) := by
    unfold bJoin
    dsimp only
    split
    · rename_i h; exact ⟨rfl, rfl, .inl ⟨rfl, h.symm⟩⟩
    · rename_i h
      refine ⟨rfl, rfl, .inr ⟨fun e => h (.inr e), ?_⟩⟩
      show List.length (_ ++ _) = _
      rw [List.length_append, links_len]
  obtain ⟨k1, k2, k3⟩ := key
  have hs : (bJoin fs b).2.s.length = (bParts fs b []).2.s.length := by rw [k2]
  refine ⟨by omega, by omega, ?_, by omega, fun hb => ?_⟩
  · rcases k3 with ⟨e, _⟩ | ⟨e, e'⟩
    · omega
    · rcases hp.str with e1 | ⟨e1, e2⟩
      · exact absurd e1 e
      · simp only [List.length_nil] at e1
        omega
  · rcases k3 with ⟨e, _⟩ | ⟨e, e'⟩
    · have := hp.str1 hb h0
      omega
    · rcases hp.str with e1 | ⟨e1, e2⟩
      · exact absurd e1 e
      · simp only [List.length_nil] at e1
        omega
theorem union_len (n e : Int) (l : List (Int × Int)) : (l.flatMap fun p => [(n, p.1), (p.2, e)]).length = 2 * l.length := by
  induction l with
  | nil => rfl
  | cons p l ih => rw [List.flatMap_cons, List.length_append, ih]; simp; omega
theorem union_bd {h : Nat} {fs : List BF} (hf : ∀ f ∈ fs, ∀ b, Bd h f b) (b : BS) : Bd (h + 1) (bUnion fs) b := by
  have hp := parts_bd fs b.state [] hf
  have := hp.lo; have := hp.hi; have := hp.f4; have := hp.s1
  have e1 : (bUnion fs b).2.n = (bParts fs b.state []).2.n + 1 := rfl
  have e2 : (bUnion fs b).2.f.length = (bParts fs b.state []).2.f.length + 2 * (bParts fs b.state []).1.length := by
    show List.length (_ ++ _) = _
    rw [List.length_append, union_len]; rfl
  have e3 : (bUnion fs b).2.s.length = (bParts fs b.state []).2.s.length := rfl
  have e4 : b.state.n = b.n + 1 := rfl
  have e5 : b.state.f.length = b.f.length := rfl
  have e6 : b.state.s.length = b.s.length := rfl
  have hl : (bUnion fs b).2.f.length + 4 * (b.n + 1) ≤ b.f.length + 4 * (bParts fs b.state []).2.n := by
    rcases hp.str with e | ⟨e, e'⟩
    · rw [e] at e2; simp only [List.length_nil] at e2; omega
    · simp only [List.length_nil] at e; omega
  exact ⟨by omega, by omega, by omega, by omega, fun _ => by omega⟩
theorem repeat_bd {h : Nat} {f : BF} (hf : ∀ b, Bd h f b) (lo : Int) (hi : Nat) (b : BS) : Bd (h + 1) (bRepeat lo hi f) b := by
  have hp := parts_bd (List.replicate hi f) b.state [] (fun g hg => by rw [List.eq_of_mem_replicate hg]; exact hf)
  have := hp.lo; have := hp.hi; have := hp.f4; have := hp.s1
  have e4 : b.state.n = b.n + 1 := rfl
  have e5 : b.state.f.length = b.f.length := rfl
  have e6 : b.state.s.length = b.s.length := rfl
  have key : (bRepeat lo hi f b).2.n = (bParts (List.replicate hi f) b.state []).2.n + 1 ∧ (bRepeat lo hi f b).2.s = (bParts (List.replicate hi f) b.state []).2.s ∧ ((bRepeat lo hi f b).2.f = (bParts (List.replicate hi f) b.state []).2.f ∨ (bRepeat lo hi f b).2.f.length ≤ (bParts (List.replicate hi f) b.state []).2.f.length + 2 + 2 * (bParts (List.replicate hi f) b.state []).1.length) := by
    unfold bRepeat
    dsimp only
    split
    · exact ⟨rfl, rfl, .inl rfl⟩
    · refine ⟨rfl, rfl, .inr ?_⟩
      show List.length (_ ++ _) ≤ _
      have := rLinks_len lo (bParts (List.replicate hi f) b.state []).2.n 0 (bParts (List.replicate hi f) b.state []).1
      simp only [List.length_append]
      have h1 : (headL b.n (bParts (List.replicate hi f) b.state []).1).length ≤ 1 := by unfold headL; split <;> simp
      have h2 : (if lo = 0 then [((b.n : Int), ((bParts (List.replicate hi f) b.state []).2.n : Int))] else []).length ≤ 1 := by split <;> simp
      have h3 : (bParts (List.replicate hi f) b.state []).2.state.f = (bParts (List.replicate hi f) b.state []).2.f := rfl
      rw [h3]
      omega
  obtain ⟨k1, k2, k3⟩ := key
  have hs : (bRepeat lo hi f b).2.s.length = (bParts (List.replicate hi f) b.state []).2.s.length := by rw [k2]
  have hl : (bRepeat lo hi f b).2.f.length + 4 * (b.n + 1) ≤ b.f.length + 4 * (bParts (List.replicate hi f) b.state []).2.n + 2 := by
    rcases k3 with e | e
    · rw [e]; omega
    · rcases hp.str with e1 | ⟨e1, e'⟩
      · rw [e1] at e; simp only [List.length_nil] at e; omega
      · simp only [List.length_nil] at e1; omega
  exact ⟨by omega, by omega, by omega, by omega, fun _ => by omega⟩
theorem leaf_bd (kind set : Int) (h : Nat) (b : BS) : Bd (h + 1) (bLeaf kind set) b := by
  unfold bLeaf
  have e1 : b.state.state.n = b.n + 2 := rfl
  have e2 : b.state.state.f = b.f := rfl
  have e3 : b.state.state.s = b.s := rfl
  have e4 : ∀ x y v, (b.state.state.step x y v).s.length = b.s.length + 1 := fun x y v => by show List.length (_ ++ _) = _; rw [List.length_append]; rfl
  have e5 : ∀ x y, (b.state.state.free x y).f.length = b.f.length + 1 := fun x y => by show List.length (_ ++ _) = _; rw [List.length_append]; rfl
  have e6 : ∀ x y v, (b.state.state.step x y v).n = b.n + 2 := fun x y v => rfl
  have e7 : ∀ x y v, (b.state.state.step x y v).f = b.f := fun x y v => rfl
  have e8 : ∀ x y, (b.state.state.free x y).n = b.n + 2 := fun x y => rfl
  have e9 : ∀ x y, (b.state.state.free x y).s = b.s := fun x y => rfl
  refine ⟨?_, ?_, ?_, ?_, fun _ => ?_⟩ <;> dsimp only <;> split <;> (try split) <;> simp only [e1, e2, e3, e4, e5, e6, e7, e8, e9] <;> omega
mutual
def hN : Nd → Nat
  | .mk _ _ _ _ l => hNs l + 1
def hNs : List Nd → Nat
  | [] => 0
  | x :: l => max (hN x) (hNs l)
end
mutual
/-- What may be built. -/
def okN : Nd → Bool
  | .mk kind _ lo hi l => okNs l && (if kind = 4 ∨ kind = 5 ∨ kind = 6 ∨ kind = 7 ∨ kind = 8 then decide (0 < l.length ∧ l.length ≤ 10) else if kind = 9 then decide (0 < l.length ∧ l.length ≤ 10 ∧ 0 ≤ lo ∧ lo ≤ hi ∧ hi ≤ 10) else true)
def okNs : List Nd → Bool
  | [] => true
  | x :: l => okN x && okNs l
end
theorem Bd.mono {h h' f b} (hb : Bd h f b) (hh : h ≤ h') : Bd h' f b := ⟨hb.lo, by have := hb.hi; omega, hb.f4, hb.s1, hb.str⟩
theorem hN_pos (x) : 1 ≤ hN x := by cases x; rw [hN]; omega
theorem bPartL_length (l) : (bPartL l).length = l.length := by
  induction l with
  | nil => rw [bPartL]; rfl
  | cons x l ih => rw [bPartL, List.length_cons, ih, List.length_cons]
mutual
theorem part_bd : ∀ (x : Nd), okN x = true → ∀ b, Bd (hN x) (bPart x) b
  | .mk kind set lo hi l, hk, b => by
    rw [okN, Bool.and_eq_true] at hk
    obtain ⟨hk1, hk2⟩ := hk
    have hl := parts_bd' l hk1
    rw [bPart, hN]
    have hd : 0 < l.length → ∀ b, Bd (hNs l) ((bPartL l).headD fun b => ((0, 0), b)) b := fun h b => by
      cases l with
      | nil => exact absurd h (by simp)
      | cons x l => exact hl _ (by rw [bPartL]; exact List.mem_cons_self) b
    have h1 : 0 < l.length → 1 ≤ hNs l := fun h => by
      cases l with
      | nil => exact absurd h (by simp)
      | cons x l => have := hN_pos x; rw [hNs]; omega
    unfold bNode
    by_cases k4 : kind = 4
    · rw [if_pos k4]
      rw [if_pos (.inl k4), decide_eq_true_eq] at hk2
      exact join_bd hl (by rw [bPartL_length]; exact hk2.1) (h1 hk2.1) b
    by_cases k5 : kind = 5
    · rw [if_neg k4, if_pos k5]
      exact union_bd hl b
    by_cases k6 : kind = 6
    · rw [if_neg k4, if_neg k5, if_pos k6]
      rw [if_pos (.inr (.inr (.inl k6))), decide_eq_true_eq] at hk2
      exact once_bd (hd hk2.1) _ _ b
    by_cases k7 : kind = 7
    · rw [if_neg k4, if_neg k5, if_neg k6, if_pos k7]
      rw [if_pos (.inr (.inr (.inr (.inl k7)))), decide_eq_true_eq] at hk2
      exact once_bd (hd hk2.1) _ _ b
    by_cases k8 : kind = 8
    · rw [if_neg k4, if_neg k5, if_neg k6, if_neg k7, if_pos k8]
      rw [if_pos (.inr (.inr (.inr (.inr k8)))), decide_eq_true_eq] at hk2
      exact once_bd (hd hk2.1) _ _ b
    by_cases k9 : kind = 9
    · rw [if_neg k4, if_neg k5, if_neg k6, if_neg k7, if_neg k8, if_pos k9]
      rw [if_neg (by omega), if_pos k9, decide_eq_true_eq] at hk2
      exact repeat_bd (hd hk2.1) _ _ b
    rw [if_neg k4, if_neg k5, if_neg k6, if_neg k7, if_neg k8, if_neg k9]
    exact leaf_bd _ _ _ b
theorem parts_bd' : ∀ (l : List Nd), okNs l = true → ∀ f ∈ bPartL l, ∀ b, Bd (hNs l) f b
  | [], _, f, hf, b => by rw [bPartL] at hf; cases hf
  | x :: l, hk, f, hf, b => by
    rw [okNs, Bool.and_eq_true] at hk
    rw [bPartL] at hf
    rw [hNs]
    rcases List.mem_cons.1 hf with rfl | hf
    · exact (part_bd x hk.1 b).mono (by omega)
    · exact (parts_bd' l hk.2 f hf b).mono (by omega)
end
end Go.Proofs.Ytcaemgpificohaa.A
/- The builder: parts. -/
namespace Go.Proofs.Ytcaemgpificohaa.A
open Go
set_option maxRecDepth 20000
abbrev bE (p : Int × Int) : AV := .agg [.int .i64 p.1, .int .i64 p.2]
def RPartB (args : List AV) (H : AH) (v : AV) (H' : AH) : Prop := OkR Try.prog 32 args H v H' ∧ ∀ t b x, args = [bp t, nodeV x] → BAt H.o H.nx t b → v = bE (bPart x b).1 ∧ BTo t (bPart x b).2 H H'
/-- A row of parts: as data, or in memory. -/
def NdsAt (o : Ob) (nx : Nat) (v : AV) (l : List Nd) : Prop := v = slN l ∨ HS 34 5 17 o nx v l.length (cNds l)
def RParts (args : List AV) (H : AH) (v : AV) (H' : AH) : Prop := OkR Try.prog 48 args H v H' ∧ ∀ t b l v0, args = [bp t, v0] → NdsAt H.o H.nx v0 l → BAt H.o H.nx t b → BTo t (bParts (bPartL l) b []).2 H H' ∧ HS 65 2 21 H'.o H'.nx v (bParts (bPartL l) b []).1.length (cP (bParts (bPartL l) b []).1)
structure Pre (h : Nat) (b : BS) : Prop where
  f : b.f.length ≤ 4 * b.n
  s : b.s.length ≤ b.n
  n : b.n + 2 * h ≤ 100000
theorem part_call {x : Nd} {t : Nat} {o : Ob} {nx : Nat} {b : BS} {K : AV × AH → Prop} (hex : ∃ v H', RPartB [bp t, nodeV x] ⟨o, nx⟩ v H') (h : BAt o nx t b) (hK : ∀ o' nx', nx ≤ nx' → BAt o' nx' t (bPart x b).2 → BKeep t o nx o' → K (bE (bPart x b).1, ⟨o', nx'⟩)) :
    wO (Option.map (fun p => freezeR false p.1 p.2) (cRel RPartB [bp t, nodeV x] ⟨o, nx⟩)) K := by
  refine cRel_call hex fun v H' hr => ?_
  obtain ⟨rfl, h1, h2, h3⟩ := hr.2 t b x rfl h
  exact hK H'.o H'.nx h1 h2 h3
theorem parts_call {l : List Nd} {v0 : AV} {t : Nat} {o : Ob} {nx : Nat} {b : BS} {K : AV × AH → Prop} (hex : ∃ v H', RParts [bp t, v0] ⟨o, nx⟩ v H') (hv : NdsAt o nx v0 l) (h : BAt o nx t b)
    (hK : ∀ v o' nx', nx ≤ nx' → BAt o' nx' t (bParts (bPartL l) b []).2 → BKeep t o nx o' → HS 65 2 21 o' nx' v (bParts (bPartL l) b []).1.length (cP (bParts (bPartL l) b []).1) → K (v, ⟨o', nx'⟩)) :
    wO (Option.map (fun p => freezeR false p.1 p.2) (cRel RParts [bp t, v0] ⟨o, nx⟩)) K := by
  refine cRel_call hex fun v H' hr => ?_
  obtain ⟨⟨h1, h2, h3⟩, h4⟩ := hr.2 t b l v0 rfl hv h
  exact hK v H'.o H'.nx h1 h2 h3 h4
theorem crParts_ok : CRSound Try.prog (tabLookR [(33, cRel RFull), (32, cRel RPartB)]) ∧ Up (tabLookR [(33, cRel RFull), (32, cRel RPartB)]) :=
  tabR_cons (tabR_cons (tabR_nil _) fun args H v H' h => (cRel_some h).1) fun args H v H' h => (cRel_some h).1
theorem lookParts (X) : lookedAt (EX md0 X) (fun _ => none) 2 Try.f48 = true := by kernel_rfl
theorem BAt.new {o nx t b} (h : BAt o nx t b) {o' : Ob} {nx' : Nat} (ho : ∀ i j, i < nx → o' (i, j) = o (i, j)) (hn : nx ≤ nx') : BAt o' nx' t b := by
  obtain ⟨vS, vF, h⟩ := h
  exact ⟨vS, vF, ⟨by have := h.lt; omega, by rw [ho _ _ h.lt]; exact h.row, h.s.keep (fun i hi => ho i _ hi) hn, h.f.keep (fun i hi => ho i _ hi) hn⟩⟩
theorem NdsAt.new {o nx v l} (h : NdsAt o nx v l) {o' : Ob} {nx' : Nat} (ho : ∀ i j, i < nx → o' (i, j) = o (i, j)) (hn : nx ≤ nx') : NdsAt o' nx' v l := by
  rcases h with h | h
  · exact .inl h
  · exact .inr (h.keep (fun i hi => ho i 17 hi) hn)
theorem BKeep.new {t o nx o'} (ho : ∀ i j, i < nx → o' (i, j) = o (i, j)) : BKeep t o nx o' := fun i j hi _ _ _ => ho i j hi
theorem NdsAt.keep {o nx v l} (h : NdsAt o nx v l) {t o' nx'} (hk : BKeep t o nx o') (hn : nx ≤ nx') : NdsAt o' nx' v l := by
  rcases h with h | h
  · exact .inl h
  · exact .inr (h.keep (fun i hi => hk i 17 hi (fun e => absurd e (by decide)) (by decide) (by decide)) hn)
theorem bPartL_drop {l : List Nd} {i : Nat} (h : i < l.length) : bPartL (l.drop i) = bPart (l.getD i default) :: bPartL (l.drop (i + 1)) := by
  rw [List.drop_eq_getElem_cons h, bPartL, List.getD_eq_getElem?_getD, List.getElem?_eq_getElem h]
  rfl
theorem okNs_get {l : List Nd} (hk : okNs l = true) {i : Nat} (h : i < l.length) : okN (l.getD i default) = true ∧ hN (l.getD i default) ≤ hNs l := by
  induction l generalizing i with
  | nil => simp at h
  | cons x l ih =>
    rw [okNs, Bool.and_eq_true] at hk
    rw [hNs]
    cases i with
    | zero => exact ⟨hk.1, by show hN x ≤ _; omega⟩
    | succ i =>
      have := ih hk.2 (by simpa using h)
      exact ⟨this.1, by have := this.2; show hN (l.getD i default) ≤ _; omega⟩
theorem nd_mem {l : List Nd} {i : Nat} (h : i < l.length) : l.getD i default ∈ l := by
  rw [List.getD_eq_getElem?_getD, List.getElem?_eq_getElem h]
  exact List.getElem_mem h
theorem BAt.slot {o nx t b} (h : BAt o nx t b) {o' : Ob} {nx' : Nat} (ho : ∀ i j, (j = 8 ∨ j = 139 ∨ j = 16) → o' (i, j) = o (i, j)) (hn : nx ≤ nx') : BAt o' nx' t b := by
  obtain ⟨vS, vF, h⟩ := h
  exact ⟨vS, vF, ⟨by have := h.lt; omega, by rw [ho _ _ (.inl rfl)]; exact h.row, h.s.keep (fun i hi => ho i _ (.inr (.inl rfl))) hn, h.f.keep (fun i hi => ho i _ (.inr (.inr rfl))) hn⟩⟩
theorem bParts_cons (f : BF) (fs b out) : bParts (f :: fs) b out = if b.n > 1000 then ([], b) else bParts fs (f b).2 (out ++ [(f b).1]) := by rw [bParts]
theorem parts_loop {l : List Nd} (hk : okNs l = true) (hlen : l.length ≤ 20) (hpart : ∀ x ∈ l, ∀ t o nx b, BAt o nx t b → Pre (hN x) b → ∃ v H', RPartB [bp t, nodeV x] ⟨o, nx⟩ v H') {cr : CallR} (hF : cr 33 = cRel RFull) (hP : cr 32 = cRel RPartB)
    {t : Nat} {o0 : Ob} {nx0 : Nat} {b0 : BS} {v0 : AV} {a : AAct} {o : Ob} {nx : Nat} {Q : WPost} (hv : NdsAt o nx v0 l) (h : BAt o nx t b0) (hp : Pre (hNs l) b0) (hh : hNs l ≤ 1000) (ha0 : a 0 = bp t) (ha5 : a 5 = .nil) (ha8 : a 8 = v0) (ha9 : a 9 = .int .i64 l.length) (ha10 : a 10 = .int .i64 0)
    (hkp : BKeep t o0 nx0 o) (hnx : nx0 ≤ nx) (hQ : ∀ a o nx, nx0 ≤ nx → BAt o nx t (bParts (bPartL l) b0 []).2 → BKeep t o0 nx0 o → HS 65 2 21 o nx (a 4) (bParts (bPartL l) b0 []).1.length (cP (bParts (bPartL l) b0 []).1) → Q .ret a o nx) :
    WP (EX md0 (fun _ _ => none)) cr 30 (fun _ => none) (pathC [1, 1, 0, 1, 0] (Try.f48.body.getD .skip)) a o nx (blockQ 0 (thenQ (EX md0 (fun _ _ => none)) cr 30 (fun _ => none) (pathC [1, 1, 1] (Try.f48.body.getD .skip)) Q)) := by
  simp only [Try.f48, Option.getD_some, pathC]
  refine WP_loop (fun m a o nx => ∃ i b out v, i ≤ l.length ∧ m = l.length - i ∧ bParts (bPartL l) b0 [] = bParts (bPartL (l.drop i)) b out ∧ out.length = i ∧ NdsAt o nx v0 l ∧ BAt o nx t b ∧ HS 65 2 21 o nx v i (cP out) ∧ nx0 ≤ nx ∧ BKeep t o0 nx0 o ∧
    b.f.length ≤ 4 * b.n ∧ b.s.length ≤ b.n ∧ b.n ≤ max b0.n (1000 + 2 * hNs l) ∧ (∀ i g n, v = .ref (i, 21) g 0 n → nx0 ≤ i) ∧ a 0 = bp t ∧ a 5 = v ∧ a 8 = v0 ∧ a 9 = .int .i64 l.length ∧ a 10 = .int .i64 i) l.length (by omega) ⟨0, b0, [], .nil, by omega, by omega, rfl, rfl, hv, h, HS.nil, hnx, hkp, hp.f, hp.s, by omega, (fun i g n h => by cases h), ha0, ha5, ha8, ha9, ha10⟩ ?_
  clear hv h ha0 ha5 ha8 ha9 ha10 hkp hnx
  rintro m a o nx ⟨i, b, out, v, hi, rfl, hbp, hout, hv, hB, hHS, hnx, hkp, hf4, hs1, hn, hfr, h0, h5, h8, h9, h10⟩
  have hok := hHS.ok
  by_cases hlt : i < l.length
  · have hx := okNs_get hk hlt
    have hmem := nd_mem hlt
    have hat := cNds_at hlt
    have hdrop := bPartL_drop hlt
    obtain ⟨x, hxe⟩ : ∃ x, x = l.getD i default := ⟨_, rfl⟩
    rw [← hxe] at hx hat hmem hdrop
    have hnew : ∀ y z, ∀ i j, i < nx → upd (upd o (nx + 1, 7) y) (nx + 1, 7) z (i, j) = o (i, j) := fun y z i j hi => by simp (disch := omega) only [upd_fst]
    rw [hdrop, bParts_cons] at hbp
    have hP1 : b.n ≤ 1000 → Pre (hN x) b := fun h => ⟨hf4, hs1, by have := hx.2; omega⟩
    have hbd := part_bd x hx.1 b
    have hv' := hv
    rcases hv with rfl | ⟨rfl, e1, e2⟩ | ⟨i2, g2, rfl, hi2, hrow2, hlen2⟩
    · simp (disch := omega) only [go_sem, ↓IntWalk.iteOmega, IntWalk.toNatUp, Nat.reduceEqDiff, Nat.reduceAdd, Nat.reduceMul, Nat.reduceSub, Nat.reduceLT, Nat.reduceLeDiff, Int.reduceToNat, Int.reduceLT, Int.reduceLE, Int.reduceEq, Int.reduceAdd, Int.reduceSub, Int.reduceMul, Int.toNat_natCast, reduceCtorEq, decide_true, decide_false, IntWalk.i64_in, IntWalk.u64_in, IntWalk.u8_in, h0, h5, h8, h9, h10, hat, hF]
      refine full_call (hB.new (hnew _ _) (by omega)) ?_
      intro o1 nx1 hle1 hB1 hk1
      have hx7 : o1 (nx + 1, 7) = some (.row ⟨34, 1, (nx + 1, 7), false, true, cNd x⟩) := by rw [hk1 _ _ (by omega) (fun e => absurd e (by decide)) (by decide) (by decide)]; exact upd_same _ _ _
      have hkq := (BKeep.new (t := t) (hnew (.row ⟨34, 1, (nx + 1, 7), false, true, [.int .i64 0, .int .i64 0, .int .i64 0, .int .i64 0, .nil]⟩) (.row ⟨34, 1, (nx + 1, 7), false, true, cNd x⟩))).trans hk1 (by omega)
      have hk01 : BKeep t o0 nx0 o1 := hkp.trans ((BKeep.new (hnew _ _)).trans hk1 (by omega)) hnx
      by_cases hfull : (1000 : Int) < b.n
      · rw [if_pos (by omega)] at hbp
        simp (disch := omega) only [go_sem, ↓IntWalk.iteOmega, IntWalk.toNatUp, Nat.reduceEqDiff, Nat.reduceAdd, Nat.reduceMul, Nat.reduceSub, Nat.reduceLT, Nat.reduceLeDiff, Int.reduceToNat, Int.reduceLT, Int.reduceLE, Int.reduceEq, Int.reduceAdd, Int.reduceSub, Int.reduceMul, Int.toNat_natCast, reduceCtorEq, decide_true, decide_false, IntWalk.i64_in, IntWalk.u64_in, IntWalk.u8_in, hfull, h0, h5, h8, h9, h10, hx7]
        refine hQ _ _ _ (by omega) ?_ hk01 ?_
        · rw [hbp]; exact hB1.new (fun _ _ _ => rfl) (by omega)
        · rw [hbp]; exact HS.nil
      · rw [if_neg (by omega)] at hbp
        have hHS1 := hHS.keep (o' := o1) (nx' := nx1) (fun i hi => by rw [hk1 _ _ (by omega) (fun e => absurd e (by decide)) (by decide) (by decide), hnew _ _ _ _ hi]) (by omega)
        simp (disch := omega) only [go_sem, ↓IntWalk.iteOmega, IntWalk.toNatUp, Nat.reduceEqDiff, Nat.reduceAdd, Nat.reduceMul, Nat.reduceSub, Nat.reduceLT, Nat.reduceLeDiff, Int.reduceToNat, Int.reduceLT, Int.reduceLE, Int.reduceEq, Int.reduceAdd, Int.reduceSub, Int.reduceMul, Int.toNat_natCast, reduceCtorEq, decide_true, decide_false, IntWalk.i64_in, IntWalk.u64_in, IntWalk.u8_in, hfull, h0, h5, h8, h9, h10, hx7, hP]
        refine part_call (hpart x hmem t _ _ b (hB1.new (fun _ _ _ => rfl) (by omega)) (hP1 (by omega))) (hB1.new (fun _ _ _ => rfl) (by omega)) ?_
        intro o2 nx2 hle2 hB2 hk2
        have hHS2 := (hHS1.keep (o' := o1) (nx' := nx1 + 1) (fun _ _ => rfl) (by omega)).keep (o' := o2) (nx' := nx2) (fun i hi => by rw [hk2 _ _ (by omega) (fun e => absurd e (by decide)) (by decide) (by decide)]) (by omega)
        have hk02 : BKeep t o0 nx0 o2 := hk01.trans (fun i j (hi : i < nx1) => hk2 i j (by omega)) (by omega)
        have hv2 := (hv'.keep (hkq) (by omega : nx ≤ nx1)).new (o' := o1) (nx' := nx1 + 1) (fun _ _ _ => rfl) (by omega)
        have fin : ∀ (j : Nat) y z, nx0 ≤ j → NdsAt (upd (upd o2 (nx1, 20) y) (j, 21) z) (nx2 + 1) (slN l) l ∧ BAt (upd (upd o2 (nx1, 20) y) (j, 21) z) (nx2 + 1) t (bPart x b).2 ∧ BKeep t o0 nx0 (upd (upd o2 (nx1, 20) y) (j, 21) z) := by
          intro j y z hj
          have hslot : ∀ i' j', j' ≠ 20 → j' ≠ 21 → upd (upd o2 (nx1, 20) y) (j, 21) z (i', j') = o2 (i', j') := fun i' j' h1 h2 => by simp [upd_app, h1, h2]
          refine ⟨?_, hB2.slot (fun i' j' h => hslot i' j' (by omega) (by omega)) (by omega), fun i' j' hi' h1 h2 h3 => ?_⟩
          · rcases hv2.keep hk2 hle2 with h | h
            · exact .inl h
            · exact .inr (h.keep (fun i' _ => hslot i' 17 (by omega) (by omega)) (by omega))
          · rw [← hk02 i' j' hi' h1 h2 h3]
            have e1 : i' ≠ nx1 := by omega
            have e2 : i' ≠ j := by omega
            simp [upd_app, e1, e2]
        have hnN : (bPart x b).2.n ≤ max b0.n (1000 + 2 * hNs l) := by have := hbd.hi; have := hx.2; omega
        have hF4 : (bPart x b).2.f.length ≤ 4 * (bPart x b).2.n := by have := hbd.f4; omega
        have hS1 : (bPart x b).2.s.length ≤ (bPart x b).2.n := by have := hbd.s1; omega
        rcases hHS2 with ⟨rfl, e1, e2⟩ | ⟨i1, g1, rfl, hi1, hrow, hlen⟩
        · simp (disch := omega) only [go_sem, ↓IntWalk.iteOmega, IntWalk.toNatUp, Nat.reduceEqDiff, Nat.reduceAdd, Nat.reduceMul, Nat.reduceSub, Nat.reduceLT, Nat.reduceLeDiff, Int.reduceToNat, Int.reduceLT, Int.reduceLE, Int.reduceEq, Int.reduceAdd, Int.reduceSub, Int.reduceMul, Int.toNat_natCast, reduceCtorEq, decide_true, decide_false, IntWalk.i64_in, IntWalk.u64_in, IntWalk.u8_in, hfull, h0, h5, h8, h9, h10, hx7, hP]
          obtain ⟨f1, f2, f3⟩ := fin nx1 (.row ⟨65, 2, (nx1, 20), false, true, [.int .i64 (bPart x b).1.1, .int .i64 (bPart x b).1.2]⟩) (.row ⟨65, 2, (nx1, 21), false, true, [.int .i64 (bPart x b).1.1, .int .i64 (bPart x b).1.2]⟩) (by omega)
          have hout0 : out = [] := List.length_eq_zero_iff.1 (by omega)
          refine ⟨_, ?_, i + 1, (bPart x b).2, out ++ [(bPart x b).1], _, by omega, rfl, hbp, by simp [hout], f1, f2, ?_, by omega, f3, hF4, hS1, hnN, ?_, rfl, rfl⟩
          · omega
          · refine .inr ⟨nx1, (nx1, 21), by rw [e1], by omega, ?_, ?_⟩
            · rw [upd_same, hout0]; rfl
            · rw [cP_length, List.length_append, hout]; rfl
          · intro i' g' n' h
            injection h with h
            injection h with h
            omega
        · have hi0 := hfr _ _ _ rfl
          have htk : (cP out).take (i * 2) = cP out := take_len hlen
          simp (disch := omega) only [go_sem, ↓IntWalk.iteOmega, IntWalk.toNatUp, Nat.reduceEqDiff, Nat.reduceAdd, Nat.reduceMul, Nat.reduceSub, Nat.reduceLT, Nat.reduceLeDiff, Int.reduceToNat, Int.reduceLT, Int.reduceLE, Int.reduceEq, Int.reduceAdd, Int.reduceSub, Int.reduceMul, Int.toNat_natCast, reduceCtorEq, decide_true, decide_false, IntWalk.i64_in, IntWalk.u64_in, IntWalk.u8_in, hfull, h0, h5, h8, h9, h10, hx7, hP, hrow, htk]
          obtain ⟨f1, f2, f3⟩ := fin i1 (.row ⟨65, 2, (nx1, 20), false, true, [.int .i64 (bPart x b).1.1, .int .i64 (bPart x b).1.2]⟩) (.row ⟨65, 2, (nx1, 21), false, true, cP out ++ [.int .i64 (bPart x b).1.1, .int .i64 (bPart x b).1.2]⟩) hi0
          refine ⟨_, ?_, i + 1, (bPart x b).2, out ++ [(bPart x b).1], _, by omega, rfl, hbp, by simp [hout], f1, f2, ?_, by omega, f3, hF4, hS1, hnN, ?_, rfl, rfl⟩
          · omega
          · refine .inr ⟨i1, (nx1, 21), rfl, by omega, ?_, ?_⟩
            · rw [upd_same, cP_app]; rfl
            · rw [cP_length, List.length_append, hout]; rfl
          · intro i' g' n' h
            injection h with h
            injection h with h
            omega
    · omega
    · simp (disch := omega) only [go_sem, ↓IntWalk.iteOmega, IntWalk.toNatUp, Nat.reduceEqDiff, Nat.reduceAdd, Nat.reduceMul, Nat.reduceSub, Nat.reduceLT, Nat.reduceLeDiff, Int.reduceToNat, Int.reduceLT, Int.reduceLE, Int.reduceEq, Int.reduceAdd, Int.reduceSub, Int.reduceMul, Int.toNat_natCast, reduceCtorEq, decide_true, decide_false, IntWalk.i64_in, IntWalk.u64_in, IntWalk.u8_in, h0, h5, h8, h9, h10, hat, hF, hrow2]
      refine full_call (hB.new (hnew _ _) (by omega)) ?_
      intro o1 nx1 hle1 hB1 hk1
      have hx7 : o1 (nx + 1, 7) = some (.row ⟨34, 1, (nx + 1, 7), false, true, cNd x⟩) := by rw [hk1 _ _ (by omega) (fun e => absurd e (by decide)) (by decide) (by decide)]; exact upd_same _ _ _
      have hkq := (BKeep.new (t := t) (hnew (.row ⟨34, 1, (nx + 1, 7), false, true, [.int .i64 0, .int .i64 0, .int .i64 0, .int .i64 0, .nil]⟩) (.row ⟨34, 1, (nx + 1, 7), false, true, cNd x⟩))).trans hk1 (by omega)
      have hk01 : BKeep t o0 nx0 o1 := hkp.trans ((BKeep.new (hnew _ _)).trans hk1 (by omega)) hnx
      by_cases hfull : (1000 : Int) < b.n
      · rw [if_pos (by omega)] at hbp
        simp (disch := omega) only [go_sem, ↓IntWalk.iteOmega, IntWalk.toNatUp, Nat.reduceEqDiff, Nat.reduceAdd, Nat.reduceMul, Nat.reduceSub, Nat.reduceLT, Nat.reduceLeDiff, Int.reduceToNat, Int.reduceLT, Int.reduceLE, Int.reduceEq, Int.reduceAdd, Int.reduceSub, Int.reduceMul, Int.toNat_natCast, reduceCtorEq, decide_true, decide_false, IntWalk.i64_in, IntWalk.u64_in, IntWalk.u8_in, hfull, h0, h5, h8, h9, h10, hx7]
        refine hQ _ _ _ (by omega) ?_ hk01 ?_
        · rw [hbp]; exact hB1.new (fun _ _ _ => rfl) (by omega)
        · rw [hbp]; exact HS.nil
      · rw [if_neg (by omega)] at hbp
        have hHS1 := hHS.keep (o' := o1) (nx' := nx1) (fun i hi => by rw [hk1 _ _ (by omega) (fun e => absurd e (by decide)) (by decide) (by decide), hnew _ _ _ _ hi]) (by omega)
        simp (disch := omega) only [go_sem, ↓IntWalk.iteOmega, IntWalk.toNatUp, Nat.reduceEqDiff, Nat.reduceAdd, Nat.reduceMul, Nat.reduceSub, Nat.reduceLT, Nat.reduceLeDiff, Int.reduceToNat, Int.reduceLT, Int.reduceLE, Int.reduceEq, Int.reduceAdd, Int.reduceSub, Int.reduceMul, Int.toNat_natCast, reduceCtorEq, decide_true, decide_false, IntWalk.i64_in, IntWalk.u64_in, IntWalk.u8_in, hfull, h0, h5, h8, h9, h10, hx7, hP]
        refine part_call (hpart x hmem t _ _ b (hB1.new (fun _ _ _ => rfl) (by omega)) (hP1 (by omega))) (hB1.new (fun _ _ _ => rfl) (by omega)) ?_
        intro o2 nx2 hle2 hB2 hk2
        have hHS2 := (hHS1.keep (o' := o1) (nx' := nx1 + 1) (fun _ _ => rfl) (by omega)).keep (o' := o2) (nx' := nx2) (fun i hi => by rw [hk2 _ _ (by omega) (fun e => absurd e (by decide)) (by decide) (by decide)]) (by omega)
        have hk02 : BKeep t o0 nx0 o2 := hk01.trans (fun i j (hi : i < nx1) => hk2 i j (by omega)) (by omega)
        have hv2 := (hv'.keep (hkq) (by omega : nx ≤ nx1)).new (o' := o1) (nx' := nx1 + 1) (fun _ _ _ => rfl) (by omega)
        have fin : ∀ (j : Nat) y z, nx0 ≤ j → NdsAt (upd (upd o2 (nx1, 20) y) (j, 21) z) (nx2 + 1) (.ref (i2, 17) g2 0 l.length) l ∧ BAt (upd (upd o2 (nx1, 20) y) (j, 21) z) (nx2 + 1) t (bPart x b).2 ∧ BKeep t o0 nx0 (upd (upd o2 (nx1, 20) y) (j, 21) z) := by
          intro j y z hj
          have hslot : ∀ i' j', j' ≠ 20 → j' ≠ 21 → upd (upd o2 (nx1, 20) y) (j, 21) z (i', j') = o2 (i', j') := fun i' j' h1 h2 => by simp [upd_app, h1, h2]
          refine ⟨?_, hB2.slot (fun i' j' h => hslot i' j' (by omega) (by omega)) (by omega), fun i' j' hi' h1 h2 h3 => ?_⟩
          · rcases hv2.keep hk2 hle2 with h | h
            · exact .inl h
            · exact .inr (h.keep (fun i' _ => hslot i' 17 (by omega) (by omega)) (by omega))
          · rw [← hk02 i' j' hi' h1 h2 h3]
            have e1 : i' ≠ nx1 := by omega
            have e2 : i' ≠ j := by omega
            simp [upd_app, e1, e2]
        have hnN : (bPart x b).2.n ≤ max b0.n (1000 + 2 * hNs l) := by have := hbd.hi; have := hx.2; omega
        have hF4 : (bPart x b).2.f.length ≤ 4 * (bPart x b).2.n := by have := hbd.f4; omega
        have hS1 : (bPart x b).2.s.length ≤ (bPart x b).2.n := by have := hbd.s1; omega
        rcases hHS2 with ⟨rfl, e1, e2⟩ | ⟨i1, g1, rfl, hi1, hrow, hlen⟩
        · simp (disch := omega) only [go_sem, ↓IntWalk.iteOmega, IntWalk.toNatUp, Nat.reduceEqDiff, Nat.reduceAdd, Nat.reduceMul, Nat.reduceSub, Nat.reduceLT, Nat.reduceLeDiff, Int.reduceToNat, Int.reduceLT, Int.reduceLE, Int.reduceEq, Int.reduceAdd, Int.reduceSub, Int.reduceMul, Int.toNat_natCast, reduceCtorEq, decide_true, decide_false, IntWalk.i64_in, IntWalk.u64_in, IntWalk.u8_in, hfull, h0, h5, h8, h9, h10, hx7, hP]
          obtain ⟨f1, f2, f3⟩ := fin nx1 (.row ⟨65, 2, (nx1, 20), false, true, [.int .i64 (bPart x b).1.1, .int .i64 (bPart x b).1.2]⟩) (.row ⟨65, 2, (nx1, 21), false, true, [.int .i64 (bPart x b).1.1, .int .i64 (bPart x b).1.2]⟩) (by omega)
          have hout0 : out = [] := List.length_eq_zero_iff.1 (by omega)
          refine ⟨_, ?_, i + 1, (bPart x b).2, out ++ [(bPart x b).1], _, by omega, rfl, hbp, by simp [hout], f1, f2, ?_, by omega, f3, hF4, hS1, hnN, ?_, rfl, rfl⟩
          · omega
          · refine .inr ⟨nx1, (nx1, 21), by rw [e1], by omega, ?_, ?_⟩
            · rw [upd_same, hout0]; rfl
            · rw [cP_length, List.length_append, hout]; rfl
          · intro i' g' n' h
            injection h with h
            injection h with h
            omega
        · have hi0 := hfr _ _ _ rfl
          have htk : (cP out).take (i * 2) = cP out := take_len hlen
          simp (disch := omega) only [go_sem, ↓IntWalk.iteOmega, IntWalk.toNatUp, Nat.reduceEqDiff, Nat.reduceAdd, Nat.reduceMul, Nat.reduceSub, Nat.reduceLT, Nat.reduceLeDiff, Int.reduceToNat, Int.reduceLT, Int.reduceLE, Int.reduceEq, Int.reduceAdd, Int.reduceSub, Int.reduceMul, Int.toNat_natCast, reduceCtorEq, decide_true, decide_false, IntWalk.i64_in, IntWalk.u64_in, IntWalk.u8_in, hfull, h0, h5, h8, h9, h10, hx7, hP, hrow, htk]
          obtain ⟨f1, f2, f3⟩ := fin i1 (.row ⟨65, 2, (nx1, 20), false, true, [.int .i64 (bPart x b).1.1, .int .i64 (bPart x b).1.2]⟩) (.row ⟨65, 2, (nx1, 21), false, true, cP out ++ [.int .i64 (bPart x b).1.1, .int .i64 (bPart x b).1.2]⟩) hi0
          refine ⟨_, ?_, i + 1, (bPart x b).2, out ++ [(bPart x b).1], _, by omega, rfl, hbp, by simp [hout], f1, f2, ?_, by omega, f3, hF4, hS1, hnN, ?_, rfl, rfl⟩
          · omega
          · refine .inr ⟨i1, (nx1, 21), rfl, by omega, ?_, ?_⟩
            · rw [upd_same, cP_app]; rfl
            · rw [cP_length, List.length_append, hout]; rfl
          · intro i' g' n' h
            injection h with h
            injection h with h
            omega
  · have he : l.drop i = [] := List.drop_of_length_le (by omega)
    rw [he, bPartL, bParts] at hbp
    simp (disch := omega) only [go_sem, ↓IntWalk.iteOmega, IntWalk.toNatUp, Nat.reduceEqDiff, Nat.reduceAdd, Nat.reduceMul, Nat.reduceSub, Nat.reduceLT, Nat.reduceLeDiff, Int.reduceToNat, Int.reduceLT, Int.reduceLE, Int.reduceEq, Int.reduceAdd, Int.reduceSub, Int.reduceMul, Int.toNat_natCast, reduceCtorEq, decide_true, decide_false, IntWalk.i64_in, IntWalk.u64_in, IntWalk.u8_in, h0, h5, h8, h9, h10]
    refine hQ _ _ _ (by omega) ?_ (hkp) ?_
    · rw [hbp]; exact hB.new (fun _ _ _ => rfl) (by omega)
    · rw [hbp]
      show HS _ _ _ _ _ _ out.length (cP out)
      rw [hout]
      simp (disch := omega) only [go_sem, ↓IntWalk.iteOmega, IntWalk.toNatUp, Nat.reduceEqDiff, Nat.reduceAdd, Nat.reduceMul, Nat.reduceSub, Nat.reduceLT, Nat.reduceLeDiff, Int.reduceToNat, Int.reduceLT, Int.reduceLE, Int.reduceEq, Int.reduceAdd, Int.reduceSub, Int.reduceMul, Int.toNat_natCast, reduceCtorEq, decide_true, decide_false, IntWalk.i64_in, IntWalk.u64_in, IntWalk.u8_in]
      exact hHS.keep (fun _ _ => rfl) (by omega)
theorem NdsAt.same {o nx v l l'} (h : NdsAt o nx v l) (h' : NdsAt o nx v l') : l = l' := by
  rcases h with rfl | h
  · rcases h' with h' | ⟨h', _⟩ | ⟨_, _, h', _⟩
    · injection h' with _ h'
      exact cNds_inj h'
    · cases h'
    · cases h'
  · rcases h' with rfl | h'
    · rcases h with ⟨h, _⟩ | ⟨_, _, h, _⟩ <;> cases h
    · exact cNds_inj (h.same h')
theorem parts_ok {l : List Nd} (hk : okNs l = true) (hlen : l.length ≤ 20) (hpart : ∀ x ∈ l, ∀ t o nx b, BAt o nx t b → Pre (hN x) b → ∃ v H', RPartB [bp t, nodeV x] ⟨o, nx⟩ v H') {t : Nat} {o : Ob} {nx : Nat} {b : BS} {v0 : AV} (hv : NdsAt o nx v0 l) (h : BAt o nx t b) (hp : Pre (hNs l) b) (hh : hNs l ≤ 1000) :
    ∃ v H', RParts [bp t, v0] ⟨o, nx⟩ v H' := by
  obtain ⟨cr, hcr⟩ : ∃ cr, cr = tabLookR [(33, cRel RFull), (32, cRel RPartB)] := ⟨_, rfl⟩
  have hF : cr 33 = cRel RFull := by rw [hcr]; rfl
  have hP : cr 32 = cRel RPartB := by rw [hcr]; rfl
  obtain ⟨v, H', h1, h2⟩ := okR_of_WP (E := EX md0 (fun _ _ => none)) (cr := cr) (cp_none _) (hcr ▸ crParts_ok) mixed (k := 30) (args := [bp t, v0]) (o := o) (nx := nx) (Post := fun v o' nx' => BTo t (bParts (bPartL l) b []).2 ⟨o, nx⟩ ⟨o', nx'⟩ ∧ HS 65 2 21 o' nx' v (bParts (bPartL l) b []).1.length (cP (bParts (bPartL l) b []).1)) Try.func48 (lookParts _) rfl (by
    clear hcr
    simp only [Try.f48, Option.getD_some]
    have hv' := hv
    rcases hv with rfl | ⟨rfl, e1, e2⟩ | ⟨i2, g2, rfl, hi2, hrow2, hlen2⟩
    all_goals
      simp (disch := omega) only [go_sem, ↓IntWalk.iteOmega, IntWalk.toNatUp, Nat.reduceEqDiff, Nat.reduceAdd, Nat.reduceMul, Nat.reduceSub, Nat.reduceLT, Nat.reduceLeDiff, Int.reduceToNat, Int.reduceLT, Int.reduceLE, Int.reduceEq, Int.reduceAdd, Int.reduceSub, Int.reduceMul, Int.toNat_natCast, reduceCtorEq, decide_true, decide_false, IntWalk.i64_in, IntWalk.u64_in, IntWalk.u8_in]
      refine parts_loop hk hlen hpart hF hP (hv'.new (fun _ _ _ => rfl) (by omega)) (h.new (fun _ _ _ => rfl) (by omega)) hp hh (by simp (disch := omega) only [go_sem, ↓IntWalk.iteOmega, IntWalk.toNatUp, Nat.reduceEqDiff, Nat.reduceAdd, Nat.reduceMul, Nat.reduceSub, Nat.reduceLT, Nat.reduceLeDiff, Int.reduceToNat, Int.reduceLT, Int.reduceLE, Int.reduceEq, Int.reduceAdd, Int.reduceSub, Int.reduceMul, Int.toNat_natCast, reduceCtorEq, decide_true, decide_false, IntWalk.i64_in, IntWalk.u64_in, IntWalk.u8_in]) (by simp (disch := omega) only [go_sem, ↓IntWalk.iteOmega, IntWalk.toNatUp, Nat.reduceEqDiff, Nat.reduceAdd, Nat.reduceMul, Nat.reduceSub, Nat.reduceLT, Nat.reduceLeDiff, Int.reduceToNat, Int.reduceLT, Int.reduceLE, Int.reduceEq, Int.reduceAdd, Int.reduceSub, Int.reduceMul, Int.toNat_natCast, reduceCtorEq, decide_true, decide_false, IntWalk.i64_in, IntWalk.u64_in, IntWalk.u8_in]) (by simp (disch := omega) only [go_sem, ↓IntWalk.iteOmega, IntWalk.toNatUp, Nat.reduceEqDiff, Nat.reduceAdd, Nat.reduceMul, Nat.reduceSub, Nat.reduceLT, Nat.reduceLeDiff, Int.reduceToNat, Int.reduceLT, Int.reduceLE, Int.reduceEq, Int.reduceAdd, Int.reduceSub, Int.reduceMul, Int.toNat_natCast, reduceCtorEq, decide_true, decide_false, IntWalk.i64_in, IntWalk.u64_in, IntWalk.u8_in]) ?_ (by simp (disch := omega) only [go_sem, ↓IntWalk.iteOmega, IntWalk.toNatUp, Nat.reduceEqDiff, Nat.reduceAdd, Nat.reduceMul, Nat.reduceSub, Nat.reduceLT, Nat.reduceLeDiff, Int.reduceToNat, Int.reduceLT, Int.reduceLE, Int.reduceEq, Int.reduceAdd, Int.reduceSub, Int.reduceMul, Int.toNat_natCast, reduceCtorEq, decide_true, decide_false, IntWalk.i64_in, IntWalk.u64_in, IntWalk.u8_in]) (BKeep.refl t o nx) (by omega) ?_
      · simp (disch := omega) only [go_sem, ↓IntWalk.iteOmega, IntWalk.toNatUp, Nat.reduceEqDiff, Nat.reduceAdd, Nat.reduceMul, Nat.reduceSub, Nat.reduceLT, Nat.reduceLeDiff, Int.reduceToNat, Int.reduceLT, Int.reduceLE, Int.reduceEq, Int.reduceAdd, Int.reduceSub, Int.reduceMul, Int.toNat_natCast, reduceCtorEq, decide_true, decide_false, IntWalk.i64_in, IntWalk.u64_in, IntWalk.u8_in]
        try rw [e1]
        try rfl
      · rintro a o' nx' h1 h2 h3 h4
        simp (disch := omega) only [go_sem, ↓IntWalk.iteOmega, IntWalk.toNatUp, Nat.reduceEqDiff, Nat.reduceAdd, Nat.reduceMul, Nat.reduceSub, Nat.reduceLT, Nat.reduceLeDiff, Int.reduceToNat, Int.reduceLT, Int.reduceLE, Int.reduceEq, Int.reduceAdd, Int.reduceSub, Int.reduceMul, Int.toNat_natCast, reduceCtorEq, decide_true, decide_false, IntWalk.i64_in, IntWalk.u64_in, IntWalk.u8_in]
        exact ⟨⟨h1, h2, h3⟩, h4⟩)
  refine ⟨v, H', h1, fun t' b' l' v0' e hv' hb => ?_⟩
  simp only [List.cons.injEq, AV.ptr.injEq, Prod.mk.injEq, and_true] at e
  obtain ⟨⟨rfl, _⟩, rfl⟩ := e
  rw [← h.same hb, ← hv.same hv']
  exact h2
end Go.Proofs.Ytcaemgpificohaa.A
/- The builder: once, repeat. -/
namespace Go.Proofs.Ytcaemgpificohaa.A
open Go
set_option maxRecDepth 20000
theorem BS.state_f (b : BS) : b.state.f = b.f := rfl
theorem BS.free_f (b : BS) (x y : Int) : (b.free x y).f = b.f ++ [(x, y)] := rfl
theorem BAt.eq {o nx t b b'} (h : BAt o nx t b) (e : b = b') : BAt o nx t b' := e ▸ h
theorem BAt.slot2 {o nx t b} (h : BAt o nx t b) {o' : Ob} {nx' : Nat} (ho : ∀ i j, (j = 8 ∧ i = t ∨ j = 139 ∨ j = 16) → o' (i, j) = o (i, j)) (hn : nx ≤ nx') : BAt o' nx' t b := by
  obtain ⟨vS, vF, h⟩ := h
  exact ⟨vS, vF, ⟨by have := h.lt; omega, by rw [ho _ _ (.inl ⟨rfl, rfl⟩)]; exact h.row, h.s.keep (fun i hi => ho i _ (.inr (.inl rfl))) hn, h.f.keep (fun i hi => ho i _ (.inr (.inr rfl))) hn⟩⟩
def ROnce (args : List AV) (H : AH) (v : AV) (H' : AH) : Prop := OkR Try.prog 51 args H v H' ∧ ∀ t b x ar bk, args = [bp t, nodeV x, .bool ar, .bool bk] → BAt H.o H.nx t b → v = bE (bOnce (bPart x) ar bk b).1 ∧ BTo t (bOnce (bPart x) ar bk b).2 H H'
theorem crOnce_ok : CRSound Try.prog (tabLookR [(50, cRel RState), (49, cRel RFree), (32, cRel RPartB)]) ∧ Up (tabLookR [(50, cRel RState), (49, cRel RFree), (32, cRel RPartB)]) :=
  tabR_cons (tabR_cons (tabR_cons (tabR_nil _) fun args H v H' h => (cRel_some h).1) fun args H v H' h => (cRel_some h).1) fun args H v H' h => (cRel_some h).1
theorem lookOnce (X) : lookedAt (EX md0 X) (fun _ => none) 4 Try.f51 = true := by kernel_rfl
theorem once_ok {x : Nd} (hk : okN x = true) (hpart : ∀ t o nx b, BAt o nx t b → Pre (hN x) b → ∃ v H', RPartB [bp t, nodeV x] ⟨o, nx⟩ v H') {t : Nat} {o : Ob} {nx : Nat} {b : BS} (h : BAt o nx t b) (hp : Pre (hN x + 1) b) (hh : hN x ≤ 1000) (ar bk : Bool) :
    ∃ v H', ROnce [bp t, nodeV x, .bool ar, .bool bk] ⟨o, nx⟩ v H' := by
  obtain ⟨cr, hcr⟩ : ∃ cr, cr = tabLookR [(50, cRel RState), (49, cRel RFree), (32, cRel RPartB)] := ⟨_, rfl⟩
  have hS : cr 50 = cRel RState := by rw [hcr]; rfl
  have hF : cr 49 = cRel RFree := by rw [hcr]; rfl
  have hP : cr 32 = cRel RPartB := by rw [hcr]; rfl
  obtain ⟨v, H', h1, h2⟩ := okR_of_WP (E := EX md0 (fun _ _ => none)) (cr := cr) (cp_none _) (hcr ▸ crOnce_ok) mixed (k := 0) (args := [bp t, nodeV x, .bool ar, .bool bk]) (o := o) (nx := nx) (Post := fun v o' nx' => v = bE (bOnce (bPart x) ar bk b).1 ∧ BTo t (bOnce (bPart x) ar bk b).2 ⟨o, nx⟩ ⟨o', nx'⟩) Try.func51 (lookOnce _) rfl (by
    clear hcr
    simp only [Try.f51, Option.getD_some]
    have hnew : ∀ y z, ∀ i j, i < nx → upd (upd o (nx, 5) y) (nx, 8) z (i, j) = o (i, j) := fun y z i j hi => by simp (disch := omega) only [upd_fst]
    have hbd := part_bd x hk b.state
    have e1 : b.state.n = b.n + 1 := rfl
    have e2 : b.state.f.length = b.f.length := rfl
    have e3 : b.state.s.length = b.s.length := rfl
    have hp1 := hp.f
    have hp2 := hp.s
    have hp3 := hp.n
    have htn : t < nx := by obtain ⟨vS, vF, h⟩ := h; exact h.lt
    simp (disch := omega) only [go_sem, ↓IntWalk.iteOmega, IntWalk.toNatUp, Nat.reduceEqDiff, Nat.reduceAdd, Nat.reduceMul, Nat.reduceSub, Nat.reduceLT, Nat.reduceLeDiff, Int.reduceToNat, Int.reduceLT, Int.reduceLE, Int.reduceEq, Int.reduceAdd, Int.reduceSub, Int.reduceMul, Int.toNat_natCast, reduceCtorEq, decide_true, decide_false, IntWalk.i64_in, IntWalk.u64_in, IntWalk.u8_in, hS]
    refine state_call (h.new (hnew _ _) (by omega)) (by omega) ?_
    intro o1 nx1 hle1 hB1 hk1
    have k1 : BKeep t o nx o1 := (BKeep.new (hnew (.row ⟨34, 1, (nx, 5), false, true, cNd x⟩) (.row ⟨65, 1, (nx, 8), false, true, [.int .i64 0, .int .i64 0]⟩))).trans hk1 (by omega)
    have hx5 : o1 (nx, 5) = some (.row ⟨34, 1, (nx, 5), false, true, cNd x⟩) := by rw [hk1 _ _ (by omega) (fun e => absurd e (by decide)) (by decide) (by decide)]; simp [upd_app]
    have hx8 : o1 (nx, 8) = some (.row ⟨65, 1, (nx, 8), false, true, [.int .i64 0, .int .i64 0]⟩) := by rw [hk1 _ _ (by omega) (fun _ => by omega) (by decide) (by decide)]; simp [upd_app]
    simp (disch := omega) only [go_sem, ↓IntWalk.iteOmega, IntWalk.toNatUp, Nat.reduceEqDiff, Nat.reduceAdd, Nat.reduceMul, Nat.reduceSub, Nat.reduceLT, Nat.reduceLeDiff, Int.reduceToNat, Int.reduceLT, Int.reduceLE, Int.reduceEq, Int.reduceAdd, Int.reduceSub, Int.reduceMul, Int.toNat_natCast, reduceCtorEq, decide_true, decide_false, IntWalk.i64_in, IntWalk.u64_in, IntWalk.u8_in, hx5, hP]
    refine part_call (hpart t _ _ b.state (hB1.new (fun _ _ _ => rfl) (by omega)) ⟨by omega, by omega, by omega⟩) (hB1.new (fun _ _ _ => rfl) (by omega)) ?_
    intro o2 nx2 hle2 hB2 hk2
    have k2 : BKeep t o nx o2 := k1.trans (fun i j (hi : i < nx1) => hk2 i j (by omega)) (by omega)
    have hy8 : o2 (nx, 8) = some (.row ⟨65, 1, (nx, 8), false, true, [.int .i64 0, .int .i64 0]⟩) := by rw [hk2 _ _ (by omega) (fun _ => by omega) (by decide) (by decide)]; exact hx8
    simp (disch := omega) only [go_sem, ↓IntWalk.iteOmega, IntWalk.toNatUp, Nat.reduceEqDiff, Nat.reduceAdd, Nat.reduceMul, Nat.reduceSub, Nat.reduceLT, Nat.reduceLeDiff, Int.reduceToNat, Int.reduceLT, Int.reduceLE, Int.reduceEq, Int.reduceAdd, Int.reduceSub, Int.reduceMul, Int.toNat_natCast, reduceCtorEq, decide_true, decide_false, IntWalk.i64_in, IntWalk.u64_in, IntWalk.u8_in, hS]
    have hb1 := hbd.hi
    have hb2 := hbd.f4
    have hb3 := hbd.s1
    obtain ⟨q, hq⟩ : ∃ q, q = upd (upd o2 (nx1, 10) (.row ⟨65, 1, (nx1, 10), false, true, [.int .i64 0, .int .i64 0]⟩)) (nx1, 10) (.row ⟨65, 1, (nx1, 10), false, true, [.int .i64 (bPart x b.state).1.1, .int .i64 (bPart x b.state).1.2]⟩) := ⟨_, rfl⟩
    rw [← hq]
    have hz2 : q (nx1, 10) = some (.row ⟨65, 1, (nx1, 10), false, true, [.int .i64 (bPart x b.state).1.1, .int .i64 (bPart x b.state).1.2]⟩) := by rw [hq]; exact upd_same _ _ _
    have hq2 : ∀ i j, j ≠ 10 → q (i, j) = o2 (i, j) := fun i j h => by rw [hq]; simp [upd_app, h]
    have hq3 : ∀ i j, i < nx → q (i, j) = o2 (i, j) := fun i j h => by
      have : i ≠ nx1 := by omega
      rw [hq]; simp [upd_app, this]
    clear hq
    have hB2' : BAt q (nx2 + 1) t (bPart x b.state).2 := hB2.slot (fun i j hj => hq2 i j (by omega)) (by omega)
    have k2' : BKeep t o nx q := fun i j hi a1 a2 a3 => (hq3 i j hi).trans (k2 i j hi a1 a2 a3)
    have hy2 := (hq2 nx 8 (by decide)).trans hy8
    refine state_call hB2' (by omega) ?_
    intro o3 nx3 hle3 hB3 hk3
    have k3 : BKeep t o nx o3 := k2'.trans (fun i j (hi : i < nx2) => hk3 i j (by omega)) (by omega)
    have hz3 := (hk3 nx1 10 (by omega) (fun e => absurd e (by decide)) (by decide) (by decide)).trans hz2
    have hy3 := (hk3 nx 8 (by omega) (fun _ => by omega) (by decide) (by decide)).trans hy2
    simp (disch := omega) only [go_sem, ↓IntWalk.iteOmega, IntWalk.toNatUp, Nat.reduceEqDiff, Nat.reduceAdd, Nat.reduceMul, Nat.reduceSub, Nat.reduceLT, Nat.reduceLeDiff, Int.reduceToNat, Int.reduceLT, Int.reduceLE, Int.reduceEq, Int.reduceAdd, Int.reduceSub, Int.reduceMul, Int.toNat_natCast, reduceCtorEq, decide_true, decide_false, IntWalk.i64_in, IntWalk.u64_in, IntWalk.u8_in, hF, hz3]
    have hlt3 : t < nx := htn
    have hnn : nx ≤ nx3 := by omega
    cases ar <;> cases bk
    all_goals
      repeat
        refine free_call (hB3.new (fun _ _ _ => rfl) (by omega)) _ _ (by simp only [BS.free_f, BS.state_f, List.length_append, List.length_cons, List.length_nil]; omega) ?_
        intro o3 nx3 hle3 hB4 hk4
        replace k3 : BKeep t o nx o3 := k3.trans (fun i j (hi : i < _) => hk4 i j (by omega)) (by omega)
        replace hz3 := (hk4 nx1 10 (by omega) (fun e => absurd e (by decide)) (by decide) (by decide)).trans hz3
        replace hy3 := (hk4 nx 8 (by omega) (fun _ => by omega) (by decide) (by decide)).trans hy3
        replace hB3 := hB4
        replace hnn : nx ≤ nx3 := by omega
        clear hB4 hk4
        simp (disch := omega) only [go_sem, ↓IntWalk.iteOmega, IntWalk.toNatUp, Nat.reduceEqDiff, Nat.reduceAdd, Nat.reduceMul, Nat.reduceSub, Nat.reduceLT, Nat.reduceLeDiff, Int.reduceToNat, Int.reduceLT, Int.reduceLE, Int.reduceEq, Int.reduceAdd, Int.reduceSub, Int.reduceMul, Int.toNat_natCast, reduceCtorEq, decide_true, decide_false, IntWalk.i64_in, IntWalk.u64_in, IntWalk.u8_in, hF, hz3, hy3]
      refine ⟨rfl, by show nx ≤ nx3 + 1; omega, ?_, fun i j hi a1 a2 a3 => ?_⟩
      · refine (BAt.slot2 (b := _) hB3 (fun i j hj => ?_) (by show nx3 ≤ nx3 + 1; omega)).eq ?_
        · have : ¬ (j = 8 ∧ i = nx) := by omega
          exact upd_ne _ _ _ _ (fun e => this (by injection e with e1 e2; exact ⟨e2, e1⟩))
        · simp [bOnce, BS.frees, BS.free, BS.state]
      · exact (upd_ne _ _ _ _ (fun e => by injection e with e1 e2; have : i < nx := hi; omega)).trans (k3 i j hi a1 a2 a3))
  refine ⟨v, H', h1, fun t' b' x' ar' bk' e hb => ?_⟩
  simp only [List.cons.injEq, AV.ptr.injEq, Prod.mk.injEq, AV.agg.injEq, AV.bool.injEq, and_true] at e
  obtain ⟨⟨rfl, _⟩, e2, rfl, rfl⟩ := e
  rw [← h.same hb, ← cNd_inj e2]
  exact h2
end Go.Proofs.Ytcaemgpificohaa.A
