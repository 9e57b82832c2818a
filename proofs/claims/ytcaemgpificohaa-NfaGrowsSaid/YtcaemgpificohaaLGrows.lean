/- NfaGrows answers true for whatever it is called with; the input reads as it did. -/
import Derived.Test.YtcaemgpificohaaLM
set_option linter.unusedVariables false
set_option linter.unusedSimpArgs false
set_option linter.unnecessarySimpa false
namespace Go.Proofs.Ytcaemgpificohaa.A
open Go
set_option maxRecDepth 20000
/-! ### more leads further -/
theorem Rch.grow {N : Nat} {fs fs' : List (Int × Int)} {l l' : List Int} (hf : ∀ p ∈ fs, 0 ≤ p.1 ∧ p.1 < (N : Int)) (hf' : ∀ p ∈ fs', 0 ≤ p.1 ∧ p.1 < (N : Int)) (hsub : ∀ p ∈ fs, p ∈ fs') (hl : ∀ x ∈ l, x ∈ l') {s : Nat} (h : Rch N (rowsOf N fs) l s) : Rch N (rowsOf N fs') l' s := by
  induction h with
  | base s hm hs => exact .base s (hl _ hm) hs
  | step s t hr hm ht ih => exact .step s t ih ((rowsOf_mem hf' hr.lt _).2 (hsub _ ((rowsOf_mem hf hr.lt _).1 hm))) ht
theorem setB_grow {N : Nat} {S : Int} {ss ss' fs fs'} (hf : ∀ p ∈ fs, 0 ≤ p.1 ∧ p.1 < (N : Int)) (hf' : ∀ p ∈ fs', 0 ≤ p.1 ∧ p.1 < (N : Int)) (hsub : ∀ p ∈ fs, p ∈ fs') (hs : ∀ p ∈ ss, p ∈ ss') (w : List Int) : ∀ s : Nat, (setB N S ss fs w).getD s false = true → (setB N S ss' fs' w).getD s false = true := by
  have key : ∀ (n : Nat) (w : List Int), w.length = n → ∀ s : Nat, (setB N S ss fs w).getD s false = true → (setB N S ss' fs' w).getD s false = true := fun n => by
    induction n with
    | zero =>
      intro w hw s h
      rw [List.length_eq_zero_iff.1 hw] at h ⊢
      simp only [setB, List.foldl_nil, closeB_get] at h ⊢
      exact h.grow hf hf' hsub (fun x hx => hx)
    | succ n ih =>
      intro w hw s h
      rcases List.eq_nil_or_concat w with rfl | ⟨v, m, rfl⟩
      · simp at hw
      · rw [List.concat_eq_append] at h hw ⊢
        rw [List.length_append, List.length_singleton] at hw
        rw [setB_snoc, stepB, closeB_get] at h ⊢
        refine h.grow hf hf' hsub fun x hx => ?_
        obtain ⟨p, hp, rfl⟩ := List.mem_map.1 hx
        obtain ⟨h1, h2⟩ := List.mem_filter.1 hp
        refine List.mem_map.2 ⟨p, List.mem_filter.2 ⟨hs p h1, ?_⟩, rfl⟩
        unfold leads at h2 ⊢
        rw [Bool.and_eq_true] at h2 ⊢
        exact ⟨ih v (by omega) _ h2.1, h2.2⟩
  exact key w.length w rfl
theorem runB_grow {N : Nat} {S F : Int} {ss ss' fs fs'} (hf : ∀ p ∈ fs, 0 ≤ p.1 ∧ p.1 < (N : Int)) (hf' : ∀ p ∈ fs', 0 ≤ p.1 ∧ p.1 < (N : Int)) (hsub : ∀ p ∈ fs, p ∈ fs') (hs : ∀ p ∈ ss, p ∈ ss') (w : List Int) (h : runB N S F ss fs w = true) : runB N S F ss' fs' w = true := setB_grow hf hf' hsub hs w _ h
def mFree (N x : Int) : Int × Int := (IntKind.i64.wrap (x.tdiv 2) % N, IntKind.i64.wrap (x.tdiv 20) % N)
def mStep (N x : Int) : Int × Int × Int := (IntKind.i64.wrap (x.tdiv 2) % N, IntKind.i64.wrap (x.tdiv 20) % N, 1 + x % 31)
def moreF (N : Int) (l : List Int) : List (Int × Int) := (l.filter fun x => decide (x % 2 = 0)).map (mFree N)
def moreS (N : Int) (l : List Int) : List (Int × Int × Int) := (l.filter fun x => !decide (x % 2 = 0)).map (mStep N)
theorem moreF_snoc (N l x) : moreF N (l ++ [x]) = moreF N l ++ (if decide (x % 2 = 0) then [mFree N x] else []) := by
  unfold moreF
  rw [List.filter_append, List.map_append]
  congr 1
  cases h : decide (x % 2 = 0) <;> simp [List.filter, h]
theorem moreS_snoc (N l x) : moreS N (l ++ [x]) = moreS N l ++ (if decide (x % 2 = 0) then [] else [mStep N x]) := by
  unfold moreS
  rw [List.filter_append, List.map_append]
  congr 1
  cases h : decide (x % 2 = 0) <;> simp [List.filter, h]
theorem moreF_le (N l) : (moreF N l).length ≤ l.length := by unfold moreF; rw [List.length_map]; exact List.length_filter_le _ _
theorem moreS_le (N l) : (moreS N l).length ≤ l.length := by unfold moreS; rw [List.length_map]; exact List.length_filter_le _ _
/-- A slice that was made at one of two places, not ahead of a round. -/
def HSB (lo e sz D1 D2 : Nat) (o : Ob) (nx : Nat) (v : AV) (n : Nat) (cs : List AV) : Prop := ∃ D, (D = D1 ∨ D = D2) ∧ HS e sz D o nx v n cs ∧ ∀ i g m, v = .ref (i, D) g 0 m → lo ≤ i
def HBS (lo : Nat) (o : Ob) (nx : Nat) (v : AV) (l : List (Int × Int × Int)) : Prop := HSB lo 48 3 77 94 o nx v l.length (cS l)
def HBF (lo : Nat) (o : Ob) (nx : Nat) (v : AV) (l : List (Int × Int)) : Prop := HSB lo 49 2 57 66 o nx v l.length (cP l)
def nzGrows : Nat → Option (List (Nat × Nat))
  | 9 => some [(1, 19)]
  | 10 => some [(1, 25)]
  | _ => none
theorem lookGrows : lookedAt (EX md1 XL6) nzGrows 6 Try.f10 = true := by kernel_rfl
theorem md1_make : md1 23 = .raw false := rfl
theorem md1_known : md1 12 = .ext true := rfl
theorem md1_within : md1 25 = .ext true := rfl
theorem md1_word : md1 19 = .ext false := rfl
theorem md1_run : md1 20 = .ext true := rfl
set_option maxHeartbeats 1000000 in
theorem grows_ok (size : Int) (ns : List Int) (start end_ : Int) (more ws : List Int) : Ok Try.prog 10 [.int .i64 size, slI ns, .int .i64 start, .int .i64 end_, slI more, slI ws] (.bool true) := by
  refine ok_of_WP (E := EX md1 XL6) (cr := crM) XL6_ok crM_ok mixed (k := 10) Try.func10 lookGrows rfl ?_
  have hw := make_wf size ns start end_
  have hkn := XL6_known
  have hwi := XL6_within
  have hN := sizeN_in size
  simp only [Try.f10, Option.getD_some]
  simp (disch := omega) only [go_sem, ↓IntWalk.iteOmega, IntWalk.toNatUp, Nat.reduceEqDiff, Nat.reduceAdd, Nat.reduceMul, Nat.reduceSub, Nat.reduceLT, Nat.reduceLeDiff, Int.reduceToNat, Int.reduceLT, Int.reduceLE, Int.reduceEq, Int.reduceAdd, Int.reduceSub, Int.reduceMul, Int.toNat_natCast, reduceCtorEq, decide_true, decide_false, IntWalk.i64_in, IntWalk.u64_in, IntWalk.u8_in, hkn, md1_make, md1_known]
  refine make_call _ _ _ _ fun vS vF o1 nx1 hM => ?_
  have h1 := hM.s.ok
  have h2 := hM.f.ok
  have h3 := hM.le
  simp (disch := omega) only [go_sem, ↓IntWalk.iteOmega, IntWalk.toNatUp, Nat.reduceEqDiff, Nat.reduceAdd, Nat.reduceMul, Nat.reduceSub, Nat.reduceLT, Nat.reduceLeDiff, Int.reduceToNat, Int.reduceLT, Int.reduceLE, Int.reduceEq, Int.reduceAdd, Int.reduceSub, Int.reduceMul, Int.toNat_natCast, reduceCtorEq, decide_true, decide_false, IntWalk.i64_in, IntWalk.u64_in, IntWalk.u8_in, h1, h2, md1_make]
  refine make_call _ _ _ _ fun vS' vF' o2 nx2 hM' => ?_
  have h1' := hM'.s.ok
  have h2' := hM'.f.ok
  have h3' := hM'.le
  have hk1 := hM.keep
  have hk2 := hM'.keep
  have hk13 := hk2 2 13 (by omega)
  simp only [upd_app, if_true] at hk13
  simp (disch := omega) only [go_sem, ↓IntWalk.iteOmega, IntWalk.toNatUp, Nat.reduceEqDiff, Nat.reduceAdd, Nat.reduceMul, Nat.reduceSub, Nat.reduceLT, Nat.reduceLeDiff, Int.reduceToNat, Int.reduceLT, Int.reduceLE, Int.reduceEq, Int.reduceAdd, Int.reduceSub, Int.reduceMul, Int.toNat_natCast, reduceCtorEq, decide_true, decide_false, IntWalk.i64_in, IntWalk.u64_in, IntWalk.u8_in, h1', h2', hk13]
  have hmm : ∀ x : Int, 0 ≤ x % (sizeN size : Int) ∧ x % (sizeN size : Int) < sizeN size := fun x => ⟨Int.emod_nonneg _ (by omega), Int.emod_lt_of_pos _ (by omega)⟩
  have hsl := stepsOf_le (sizeN size) (ns.take 14)
  have hfl := freesOf_le (sizeN size) (ns.take 14)
  rw [List.length_take] at hsl hfl
  obtain ⟨_, hAS, hAF, _, hlsA, hlfA⟩ := hM
  obtain ⟨_, hBS, hBF, _, hlsB, hlfB⟩ := hM'
  generalize sizeN size = N at *
  generalize start % (N : Int) = S at *
  generalize end_ % (N : Int) = F at *
  generalize stepsOf N (ns.take 14) = ss at *
  generalize freesOf N (ns.take 14) = fs at *
  refine WP_loop (fun m a o nx => ∃ i v1 v2, i ≤ more.length ∧ i ≤ 5 ∧ m = 5 - i ∧ nx2 ≤ nx ∧ nx1 < nx ∧ a 4 = slI more ∧ a 5 = slI ws ∧ a 13 = .ptr (2, 13) (2, 13) 0 ∧ a 14 = .ptr (nx1, 14) (nx1, 14) 0 ∧ a 15 = .int .i64 i ∧
    HS 48 3 77 o nx1 vS ss.length (cS ss) ∧ HS 49 2 57 o nx1 vF fs.length (cP fs) ∧
    HBS nx1 o nx v1 (ss ++ moreS N (more.take i)) ∧ HBF nx1 o nx v2 (fs ++ moreF N (more.take i)) ∧
    o (2, 13) = some (.row ⟨28, 1, (2, 13), false, true, [.int .i64 N, .int .i64 S, .int .i64 F, vS, vF]⟩) ∧ o (nx1, 14) = some (.row ⟨28, 1, (nx1, 14), false, true, [.int .i64 N, .int .i64 S, .int .i64 F, v1, v2]⟩)) 5 ?_ ?_ ?_
  · omega
  · refine ⟨0, vS', vF', by omega, by omega, by omega, by omega, by omega, ?_⟩
    simp (disch := omega) only [go_sem, ↓IntWalk.iteOmega, IntWalk.toNatUp, Nat.reduceEqDiff, Nat.reduceAdd, Nat.reduceMul, Nat.reduceSub, Nat.reduceLT, Nat.reduceLeDiff, Int.reduceToNat, Int.reduceLT, Int.reduceLE, Int.reduceEq, Int.reduceAdd, Int.reduceSub, Int.reduceMul, Int.toNat_natCast, reduceCtorEq, decide_true, decide_false, IntWalk.i64_in, IntWalk.u64_in, IntWalk.u8_in, hk13, List.take_zero]
    have e1 : moreS N [] = [] := rfl
    have e2 : moreF N [] = [] := rfl
    rw [e1, e2, List.append_nil, List.append_nil]
    refine ⟨hAS.keep (fun i hi => ?_) (Nat.le_refl _), hAF.keep (fun i hi => ?_) (Nat.le_refl _), ⟨77, .inl rfl, hBS.keep (fun i hi => ?_) (by omega), fun i g m h => Nat.le_of_succ_le (hlsB i g m h)⟩, ⟨57, .inl rfl, hBF.keep (fun i hi => ?_) (by omega), fun i g m h => Nat.le_of_succ_le (hlfB i g m h)⟩⟩
    · simp only [upd_app, Nat.reduceEqDiff, if_false, hk2 i 77 (by omega)]
    · simp only [upd_app, Nat.reduceEqDiff, if_false, hk2 i 57 (by omega)]
    · simp only [upd_app, Nat.reduceEqDiff, if_false]
    · simp only [upd_app, Nat.reduceEqDiff, if_false]
  · rintro m a o nx ⟨i, v1, v2, hi, hi5, rfl, hnx2, hnx1, h4, h5, h13, h14, h15, hAS, hAF, hS, hF, ho13, ho14⟩
    by_cases hlt : i < more.length ∧ i < 5
    · obtain ⟨hlt, hl5⟩ := hlt
      have hg := cI_get (s := 1) hlt
      have htk := take_succ_getD hlt 0
      generalize more.getD i 0 = x at hg htk
      have hms := moreS_snoc N (more.take i) x
      have hmf := moreF_snoc N (more.take i) x
      rw [← htk] at hms hmf
      have hml1 := moreS_le N (more.take i)
      have hml2 := moreF_le N (more.take i)
      rw [List.length_take] at hml1 hml2
      have hlen1 : (ss ++ moreS N (more.take i)).length ≤ 100 := by rw [List.length_append]; omega
      have hlen2 : (fs ++ moreF N (more.take i)).length ≤ 100 := by rw [List.length_append]; omega
      by_cases hf : x % 2 = 0
      · rw [decide_eq_true hf, if_pos rfl] at hms hmf
        rw [List.append_nil] at hms
        have hfs : fs ++ moreF N (more.take (i + 1)) = (fs ++ moreF N (more.take i)) ++ [mFree N x] := by rw [hmf, List.append_assoc]
        rw [← hms] at hS hlen1
        generalize hq : ss ++ moreS N (more.take (i + 1)) = ss1 at *
        generalize fs ++ moreF N (more.take i) = fs1 at *
        obtain ⟨D1, hD1, hS', hloS⟩ := hS
        have hok1 := hS'.ok
        obtain ⟨D, hD, hHS, hlo⟩ := hF
        have hS2 : ∀ o' nx', (∀ i, i < nx → o' (i, 77) = o (i, 77) ∧ o' (i, 94) = o (i, 94)) → nx ≤ nx' → HBS nx1 o' nx' v1 ss1 := fun o' nx' h1 h2 => ⟨D1, hD1, hS'.keep (fun i hi => hD1.elim (fun e => e ▸ (h1 i hi).1) (fun e => e ▸ (h1 i hi).2)) h2, hloS⟩
        rcases hHS with ⟨rfl, e2, e3⟩ | ⟨i1, g1, rfl, hi1, hrow, hlen⟩
        · simp (disch := omega) only [go_sem, ↓IntWalk.iteOmega, IntWalk.toNatUp, Nat.reduceEqDiff, Nat.reduceAdd, Nat.reduceMul, Nat.reduceSub, Nat.reduceLT, Nat.reduceLeDiff, Int.reduceToNat, Int.reduceLT, Int.reduceLE, Int.reduceEq, Int.reduceAdd, Int.reduceSub, Int.reduceMul, Int.toNat_natCast, reduceCtorEq, decide_true, decide_false, IntWalk.i64_in, IntWalk.u64_in, IntWalk.u8_in, md1_within, h4, h5, h13, h14, h15, ho13, ho14, hg, hwi, hf, nzGrows, hok1]
          have e4 : fs1 = [] := cP_inj (y := []) e3
          refine ⟨_, ?_, i + 1, v1, _, by omega, by omega, rfl, by omega, by omega, rfl, hAS.keep (fun j hj => by simp (disch := omega) only [upd_fst]) (Nat.le_refl _), hAF.keep (fun j hj => by simp (disch := omega) only [upd_fst]) (Nat.le_refl _), (by rw [hq]; exact hS2 _ _ (fun j hj => by simp only [upd_app, Nat.reduceEqDiff, if_false, and_self]) (by omega)), ?_, rfl⟩
          · omega
          · rw [hfs, e4]
            exact ⟨66, .inr rfl, .inr ⟨nx + 2, (nx + 2, 66), rfl, by omega, by simp [upd_app, cP, mFree], rfl⟩, fun i' g' n' h => (by injection h with h; injection h with h; omega)⟩
        · have hi1' := hlo i1 _ _ rfl
          rcases hD with rfl | rfl
          · simp (disch := omega) only [go_sem, ↓IntWalk.iteOmega, IntWalk.toNatUp, Nat.reduceEqDiff, Nat.reduceAdd, Nat.reduceMul, Nat.reduceSub, Nat.reduceLT, Nat.reduceLeDiff, Int.reduceToNat, Int.reduceLT, Int.reduceLE, Int.reduceEq, Int.reduceAdd, Int.reduceSub, Int.reduceMul, Int.toNat_natCast, reduceCtorEq, decide_true, decide_false, IntWalk.i64_in, IntWalk.u64_in, IntWalk.u8_in, md1_within, h4, h5, h13, h14, h15, ho13, ho14, hg, hwi, hf, nzGrows, hok1, hrow]
            refine ⟨_, ?_, i + 1, v1, _, by omega, by omega, rfl, by omega, by omega, rfl, hAS.keep (fun j hj => by simp (disch := omega) only [upd_fst]) (Nat.le_refl _), hAF.keep (fun j hj => by simp (disch := omega) only [upd_fst]) (Nat.le_refl _), (by rw [hq]; exact hS2 _ _ (fun j hj => by simp only [upd_app, Nat.reduceEqDiff, if_false, and_self]) (by omega)), ?_, rfl⟩
            · omega
            · rw [hfs, HBF, List.length_append, cP_app]
              exact ⟨57, .inl rfl, .inr ⟨i1, (nx + 2, 66), rfl, by omega, by simp [upd_app, cP, mFree], by rw [List.length_append, cP_length]; simp [cP]; omega⟩, fun i' g' n' h => (by injection h with h; injection h with h; omega)⟩
          · simp (disch := omega) only [go_sem, ↓IntWalk.iteOmega, IntWalk.toNatUp, Nat.reduceEqDiff, Nat.reduceAdd, Nat.reduceMul, Nat.reduceSub, Nat.reduceLT, Nat.reduceLeDiff, Int.reduceToNat, Int.reduceLT, Int.reduceLE, Int.reduceEq, Int.reduceAdd, Int.reduceSub, Int.reduceMul, Int.toNat_natCast, reduceCtorEq, decide_true, decide_false, IntWalk.i64_in, IntWalk.u64_in, IntWalk.u8_in, md1_within, h4, h5, h13, h14, h15, ho13, ho14, hg, hwi, hf, nzGrows, hok1, hrow]
            refine ⟨_, ?_, i + 1, v1, _, by omega, by omega, rfl, by omega, by omega, rfl, hAS.keep (fun j hj => by simp (disch := omega) only [upd_fst]) (Nat.le_refl _), hAF.keep (fun j hj => by simp (disch := omega) only [upd_fst]) (Nat.le_refl _), (by rw [hq]; exact hS2 _ _ (fun j hj => by simp only [upd_app, Nat.reduceEqDiff, if_false, and_self]) (by omega)), ?_, rfl⟩
            · omega
            · rw [hfs, HBF, List.length_append, cP_app]
              exact ⟨66, .inr rfl, .inr ⟨i1, (nx + 2, 66), rfl, by omega, by simp [upd_app, cP, mFree], by rw [List.length_append, cP_length]; simp [cP]; omega⟩, fun i' g' n' h => (by injection h with h; injection h with h; omega)⟩
      · rw [decide_eq_false hf, if_neg (by simp)] at hms hmf
        rw [List.append_nil] at hmf
        have hss : ss ++ moreS N (more.take (i + 1)) = (ss ++ moreS N (more.take i)) ++ [mStep N x] := by rw [hms, List.append_assoc]
        rw [← hmf] at hF hlen2
        generalize hq : fs ++ moreF N (more.take (i + 1)) = fs1 at *
        generalize ss ++ moreS N (more.take i) = ss1 at *
        obtain ⟨D1, hD1, hF', hloF⟩ := hF
        have hok1 := hF'.ok
        obtain ⟨D, hD, hHS, hlo⟩ := hS
        have hF2 : ∀ o' nx', (∀ i, i < nx → o' (i, 57) = o (i, 57) ∧ o' (i, 66) = o (i, 66)) → nx ≤ nx' → HBF nx1 o' nx' v2 fs1 := fun o' nx' h1 h2 => ⟨D1, hD1, hF'.keep (fun i hi => hD1.elim (fun e => e ▸ (h1 i hi).1) (fun e => e ▸ (h1 i hi).2)) h2, hloF⟩
        rcases hHS with ⟨rfl, e2, e3⟩ | ⟨i1, g1, rfl, hi1, hrow, hlen⟩
        · simp (disch := omega) only [go_sem, ↓IntWalk.iteOmega, IntWalk.toNatUp, Nat.reduceEqDiff, Nat.reduceAdd, Nat.reduceMul, Nat.reduceSub, Nat.reduceLT, Nat.reduceLeDiff, Int.reduceToNat, Int.reduceLT, Int.reduceLE, Int.reduceEq, Int.reduceAdd, Int.reduceSub, Int.reduceMul, Int.toNat_natCast, reduceCtorEq, decide_true, decide_false, IntWalk.i64_in, IntWalk.u64_in, IntWalk.u8_in, md1_within, h4, h5, h13, h14, h15, ho13, ho14, hg, hwi, hf, nzGrows, hok1]
          have e4 : ss1 = [] := cS_inj (y := []) e3
          refine ⟨_, ?_, i + 1, _, v2, by omega, by omega, rfl, by omega, by omega, rfl, hAS.keep (fun j hj => by simp (disch := omega) only [upd_fst]) (Nat.le_refl _), hAF.keep (fun j hj => by simp (disch := omega) only [upd_fst]) (Nat.le_refl _), ?_, (by rw [hq]; exact hF2 _ _ (fun j hj => by simp only [upd_app, Nat.reduceEqDiff, if_false, and_self]) (by omega)), rfl⟩
          · omega
          · rw [hss, e4]
            exact ⟨94, .inr rfl, .inr ⟨nx + 2, (nx + 2, 94), rfl, by omega, by simp [upd_app, cS, mStep], rfl⟩, fun i' g' n' h => (by injection h with h; injection h with h; omega)⟩
        · have hi1' := hlo i1 _ _ rfl
          rcases hD with rfl | rfl
          · simp (disch := omega) only [go_sem, ↓IntWalk.iteOmega, IntWalk.toNatUp, Nat.reduceEqDiff, Nat.reduceAdd, Nat.reduceMul, Nat.reduceSub, Nat.reduceLT, Nat.reduceLeDiff, Int.reduceToNat, Int.reduceLT, Int.reduceLE, Int.reduceEq, Int.reduceAdd, Int.reduceSub, Int.reduceMul, Int.toNat_natCast, reduceCtorEq, decide_true, decide_false, IntWalk.i64_in, IntWalk.u64_in, IntWalk.u8_in, md1_within, h4, h5, h13, h14, h15, ho13, ho14, hg, hwi, hf, nzGrows, hok1, hrow]
            refine ⟨_, ?_, i + 1, _, v2, by omega, by omega, rfl, by omega, by omega, rfl, hAS.keep (fun j hj => by simp (disch := omega) only [upd_fst]) (Nat.le_refl _), hAF.keep (fun j hj => by simp (disch := omega) only [upd_fst]) (Nat.le_refl _), ?_, (by rw [hq]; exact hF2 _ _ (fun j hj => by simp only [upd_app, Nat.reduceEqDiff, if_false, and_self]) (by omega)), rfl⟩
            · omega
            · rw [hss, HBS, List.length_append, cS_app]
              exact ⟨77, .inl rfl, .inr ⟨i1, (nx + 2, 94), rfl, by omega, by simp [upd_app, cS, mStep], by rw [List.length_append, cS_length]; simp [cS]; omega⟩, fun i' g' n' h => (by injection h with h; injection h with h; omega)⟩
          · simp (disch := omega) only [go_sem, ↓IntWalk.iteOmega, IntWalk.toNatUp, Nat.reduceEqDiff, Nat.reduceAdd, Nat.reduceMul, Nat.reduceSub, Nat.reduceLT, Nat.reduceLeDiff, Int.reduceToNat, Int.reduceLT, Int.reduceLE, Int.reduceEq, Int.reduceAdd, Int.reduceSub, Int.reduceMul, Int.toNat_natCast, reduceCtorEq, decide_true, decide_false, IntWalk.i64_in, IntWalk.u64_in, IntWalk.u8_in, md1_within, h4, h5, h13, h14, h15, ho13, ho14, hg, hwi, hf, nzGrows, hok1, hrow]
            refine ⟨_, ?_, i + 1, _, v2, by omega, by omega, rfl, by omega, by omega, rfl, hAS.keep (fun j hj => by simp (disch := omega) only [upd_fst]) (Nat.le_refl _), hAF.keep (fun j hj => by simp (disch := omega) only [upd_fst]) (Nat.le_refl _), ?_, (by rw [hq]; exact hF2 _ _ (fun j hj => by simp only [upd_app, Nat.reduceEqDiff, if_false, and_self]) (by omega)), rfl⟩
            · omega
            · rw [hss, HBS, List.length_append, cS_app]
              exact ⟨94, .inr rfl, .inr ⟨i1, (nx + 2, 94), rfl, by omega, by simp [upd_app, cS, mStep], by rw [List.length_append, cS_length]; simp [cS]; omega⟩, fun i' g' n' h => (by injection h with h; injection h with h; omega)⟩
    · have hcase : (i < more.length ∧ ¬ i < 5) ∨ ¬ i < more.length := by omega
      have hwA : Wf N S F ss fs := hw
      have hml1 := moreS_le N (more.take i)
      have hml2 := moreF_le N (more.take i)
      rw [List.length_take] at hml1 hml2
      have hinF : ∀ p ∈ fs ++ moreF N (more.take i), (0 ≤ p.1 ∧ p.1 < (N : Int)) ∧ (0 ≤ p.2 ∧ p.2 < (N : Int)) := fun p hp => by
        rcases List.mem_append.1 hp with hp | hp
        · exact hwA.free p hp
        · obtain ⟨y, _, rfl⟩ := List.mem_map.1 hp
          exact ⟨hmm _, hmm _⟩
      have hinS : ∀ p ∈ ss ++ moreS N (more.take i), (0 ≤ p.1 ∧ p.1 < (N : Int)) ∧ (0 ≤ p.2.1 ∧ p.2.1 < (N : Int)) := fun p hp => by
        rcases List.mem_append.1 hp with hp | hp
        · exact hwA.steps p hp
        · obtain ⟨y, _, rfl⟩ := List.mem_map.1 hp
          exact ⟨hmm _, hmm _⟩
      have hwB : Wf N S F (ss ++ moreS N (more.take i)) (fs ++ moreF N (more.take i)) := ⟨hwA.n, hwA.s, hwA.f, by rw [List.length_append]; omega, by rw [List.length_append]; omega, hinS, hinF⟩
      have hgrow := fun w => runB_grow (S := S) (F := F) (fun p hp => (hwA.free p hp).1) (fun p hp => (hinF p hp).1) (fun p hp => List.mem_append_left _ hp) (fun p (hp : p ∈ ss) => List.mem_append_left (moreS N (more.take i)) hp) w
      generalize ss ++ moreS N (more.take i) = ss1 at *
      generalize fs ++ moreF N (more.take i) = fs1 at *
      have vA1 : view o 11 vS = .sl ss.length (cS ss) := by have := hAS.view 10; rwa [view_cS] at this
      have vA2 : view o 11 vF = .sl fs.length (cP fs) := by have := hAF.view 10; rwa [view_cP] at this
      have vB1 : view o 11 v1 = .sl ss1.length (cS ss1) := by obtain ⟨D, _, h, _⟩ := hS; have := h.view 10; rwa [view_cS] at this
      have vB2 : view o 11 v2 = .sl fs1.length (cP fs1) := by obtain ⟨D, _, h, _⟩ := hF; have := h.view 10; rwa [view_cP] at this
      have hnA := XL6_nrun hwA
      have hnB := XL6_nrun hwB
      have hwd := fun most => XL6_word ws most 4
      rcases hcase with ⟨c1, c2⟩ | c1
      all_goals
        simp (disch := omega) only [go_sem, ↓IntWalk.iteOmega, IntWalk.toNatUp, Nat.reduceEqDiff, Nat.reduceAdd, Nat.reduceMul, Nat.reduceSub, Nat.reduceLT, Nat.reduceLeDiff, Int.reduceToNat, Int.reduceLT, Int.reduceLE, Int.reduceEq, Int.reduceAdd, Int.reduceSub, Int.reduceMul, Int.toNat_natCast, reduceCtorEq, decide_true, decide_false, IntWalk.i64_in, IntWalk.u64_in, IntWalk.u8_in, h4, h5, h13, h14, h15, ho13, ho14, nzGrows]
        refine WP_loop (fun m a o' nx' => ∃ j, j ≤ 8 ∧ m = 8 - j ∧ o' = o ∧ a 5 = slI ws ∧ a 13 = .ptr (2, 13) (2, 13) 0 ∧ a 14 = .ptr (nx1, 14) (nx1, 14) 0 ∧ a 16 = .int .i64 j) 8 ?_ ?_ ?_
        · omega
        · refine ⟨0, by omega, by omega, rfl, ?_⟩
          simp (disch := omega) only [go_sem, ↓IntWalk.iteOmega, IntWalk.toNatUp, Nat.reduceEqDiff, Nat.reduceAdd, Nat.reduceMul, Nat.reduceSub, Nat.reduceLT, Nat.reduceLeDiff, Int.reduceToNat, Int.reduceLT, Int.reduceLE, Int.reduceEq, Int.reduceAdd, Int.reduceSub, Int.reduceMul, Int.toNat_natCast, reduceCtorEq, decide_true, decide_false, IntWalk.i64_in, IntWalk.u64_in, IntWalk.u8_in, h5, h13, h14]
        · rintro m a' o' nx' ⟨j, hj, rfl, rfl, h5, h13, h14, h16⟩
          by_cases hlt : j < 8
          · have hwl := wordOf_le ws j 4
            have hr1 := hnA (wordOf ws j 4) (by omega)
            have hr2 := hnB (wordOf ws j 4) (by omega)
            have hg := hgrow (wordOf ws j 4)
            cases hra : runB N S F ss fs (wordOf ws j 4) with
            | true =>
              rw [hra] at hr1
              rw [hg hra] at hr2
              simp (disch := omega) only [go_sem, ↓IntWalk.iteOmega, IntWalk.toNatUp, Nat.reduceEqDiff, Nat.reduceAdd, Nat.reduceMul, Nat.reduceSub, Nat.reduceLT, Nat.reduceLeDiff, Int.reduceToNat, Int.reduceLT, Int.reduceLE, Int.reduceEq, Int.reduceAdd, Int.reduceSub, Int.reduceMul, Int.toNat_natCast, reduceCtorEq, decide_true, decide_false, IntWalk.i64_in, IntWalk.u64_in, IntWalk.u8_in, md1_word, md1_run, h5, h13, h14, h16, ho13, ho14, hwd, hr1, hr2, vA1, vA2, vB1, vB2, nzGrows]
              exact ⟨_, by omega, j + 1, by omega, rfl, rfl⟩
            | false =>
              rw [hra] at hr1
              simp (disch := omega) only [go_sem, ↓IntWalk.iteOmega, IntWalk.toNatUp, Nat.reduceEqDiff, Nat.reduceAdd, Nat.reduceMul, Nat.reduceSub, Nat.reduceLT, Nat.reduceLeDiff, Int.reduceToNat, Int.reduceLT, Int.reduceLE, Int.reduceEq, Int.reduceAdd, Int.reduceSub, Int.reduceMul, Int.toNat_natCast, reduceCtorEq, decide_true, decide_false, IntWalk.i64_in, IntWalk.u64_in, IntWalk.u8_in, md1_word, md1_run, h5, h13, h14, h16, ho13, ho14, hwd, hr1, hr2, vA1, vA2, vB1, vB2, nzGrows]
              exact ⟨_, by omega, j + 1, by omega, rfl, rfl⟩
          · simp (disch := omega) only [go_sem, ↓IntWalk.iteOmega, IntWalk.toNatUp, Nat.reduceEqDiff, Nat.reduceAdd, Nat.reduceMul, Nat.reduceSub, Nat.reduceLT, Nat.reduceLeDiff, Int.reduceToNat, Int.reduceLT, Int.reduceLE, Int.reduceEq, Int.reduceAdd, Int.reduceSub, Int.reduceMul, Int.toNat_natCast, reduceCtorEq, decide_true, decide_false, IntWalk.i64_in, IntWalk.u64_in, IntWalk.u8_in, h5, h13, h14, h16]
end Go.Proofs.Ytcaemgpificohaa.A

namespace Go.Proofs.Ytcaemgpificohaa
open Go Go.Proofs.Ytcaemgpificohaa.A
set_option maxRecDepth 100000 in
theorem nfaGrows_lifted (os : Os) (started : os.Started) (H : Type) (enc : TypeId × Value → H) :
    ReturnsInHanded {} Try.checked os 10 .any (Rows.nfaGrowsSpec.pre6 enc Try.prog Try.f10 Rows.nfaGrowsRow.domain false) (Rows.nfaGrowsSpec.post enc Try.prog Try.f10 false true false false) :=
  law_lifted (C := Try.checked) Try.own started (by kernel_rfl) Try.func10
    (ChangeSpec.witness6 (enc := enc) (C := Try.checked) false ⟨#[], #[.int .i64 0, .slice none 0 0, .int .i64 0, .int .i64 0, .slice none 0 0, .slice none 0 0], []⟩ 8 (by kernel_rfl) (by kernel_rfl) (by kernel_rfl) (by kernel_rfl))
    Try.laidOut (ks := [3, 40]) (by kernel_rfl) (by kernel_rfl) (tb := 4) (by kernel_rfl) (by kernel_rfl) rfl
    (fun ds hds => by
      match ds, hds with
      | [_, _, _, _, _, _], _ => exact ⟨rfl, rfl, rfl⟩)
    (fun xs hxs => by
      rw [show Try.f10.params.toList = [3, 40, 3, 3, 40, 40] from rfl] at hxs
      match xs, hxs with
      | [x1, x2, x3, x4, x5, x6], ⟨h1, h2, h3, h4, h5, h6, _⟩ =>
        obtain ⟨n1, rfl, _⟩ := arg_int (k := .i64) (by kernel_rfl) h1
        obtain ⟨n2, rfl, _⟩ := arg_ints (e := 3) (by kernel_rfl) (by kernel_rfl) h2
        obtain ⟨n3, rfl, _⟩ := arg_int (k := .i64) (by kernel_rfl) h3
        obtain ⟨n4, rfl, _⟩ := arg_int (k := .i64) (by kernel_rfl) h4
        obtain ⟨n5, rfl, _⟩ := arg_ints (e := 3) (by kernel_rfl) (by kernel_rfl) h5
        obtain ⟨n6, rfl, _⟩ := arg_ints (e := 3) (by kernel_rfl) (by kernel_rfl) h6
        exact grows_ok n1 n2 n3 n4 n5 n6)
theorem nfaGrows_holds : Rows.NfaGrowsSaid :=
  OpenClaim.holds_of_wide 10 Try.f10 rfl rfl rfl rfl rfl rfl rfl ⟨rfl, rfl, rfl, rfl, rfl⟩ rfl rfl rfl rfl rfl (by kernel_rfl) Try.func10 (by kernel_rfl)
    (of_decide_eq_true (by kernel_rfl)) (by unfold Func.isWrapper; first | (rw [if_pos (by decide +kernel)]; kernel_rfl) | (rw [if_neg (by decide +kernel)]; exact ⟨rfl, rfl⟩))
    (fun os started H enc _ => nfaGrows_lifted os started H enc)
end Go.Proofs.Ytcaemgpificohaa
