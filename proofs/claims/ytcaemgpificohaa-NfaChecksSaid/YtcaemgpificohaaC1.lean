/- closing: the rows of free steps. -/
import Derived.Test.YtcaemgpificohaaTF
import Derived.Test.YtcaemgpificohaaA30
set_option linter.unusedVariables false
set_option linter.unusedSimpArgs false
set_option linter.unnecessarySimpa false
namespace Go.Proofs.Ytcaemgpificohaa.A
open Go
set_option maxRecDepth 20000
abbrev nfaV (N S F : Int) (ss : List (Int × Int × Int)) (fs : List (Int × Int)) : AV := .agg [.int .i64 N, .int .i64 S, .int .i64 F, .sl ss.length (cS ss), .sl fs.length (cP fs)]
/-- Where free steps lead, state by state. -/
def rowAdd (rows : List (List Int)) (f : Int × Int) : List (List Int) := rows.set f.1.toNat (rows.getD f.1.toNat [] ++ [f.2])
def rowsOf (N : Nat) (fs : List (Int × Int)) : List (List Int) := fs.foldl rowAdd (List.replicate N [])
theorem rowsOf_snoc (N fs f) : rowsOf N (fs ++ [f]) = rowAdd (rowsOf N fs) f := by simp [rowsOf]
theorem rowsOf_length (N fs) : (rowsOf N fs).length = N := by
  have : ∀ (l : List (Int × Int)) (rows : List (List Int)), (l.foldl rowAdd rows).length = rows.length := fun l => by
    induction l with
    | nil => intro; rfl
    | cons f l ih => intro rows; rw [List.foldl_cons, ih]; simp [rowAdd]
  rw [rowsOf, this]; simp
theorem rowsOf_le (N fs j) : ((rowsOf N fs).getD j []).length ≤ fs.length := by
  have : ∀ (l : List (Int × Int)) (rows : List (List Int)) (n : Nat), (∀ j, (rows.getD j []).length ≤ n) → ∀ j, ((l.foldl rowAdd rows).getD j []).length ≤ n + l.length := fun l => by
    induction l with
    | nil => intro rows n h j; simpa using h j
    | cons f l ih =>
      intro rows n h j
      have := ih (rowAdd rows f) (n + 1) (fun j => by
        unfold rowAdd
        by_cases hf : f.1.toNat < rows.length
        · rw [getD_set _ _ _ _ _ hf]
          split
          · have := h f.1.toNat; rw [List.length_append, List.length_singleton]; omega
          · have := h j; omega
        · rw [List.set_eq_of_length_le (by omega)]; have := h j; omega) j
      simp only [List.foldl_cons, List.length_cons]; omega
  have := this fs (List.replicate N []) 0 (fun j => by simp [List.getD, List.getElem?_replicate]; split <;> simp) j
  simpa [rowsOf] using this
def nz38 : Nat → Option (List (Nat × Nat))
  | 1 => some [(1, 4), (1, 6), (3, 6), (4, 6)]
  | 5 => some [(1, 12), (3, 12), (5, 12), (7, 12), (9, 12), (1, 13), (3, 13)]
  | _ => none
theorem closing_wp (md X cr k) (N : Nat) (S F : Int) (hN : N ≤ 1000) (ss fs) (hfs : fs.length ≤ 100000) (hk : fs.length < k) (hin : ∀ p ∈ fs, 0 ≤ p.1 ∧ p.1 < (N : Int)) :
    WP (EX md X) cr k nz38 (Try.f38.body.getD .skip) (begin_ [nfaV N S F ss fs]) (fun _ => none) 0 (fun u a o nx => u = .ret ∧ ∃ cs, NI 32 o nx cs (rowsOf N fs) ∧ a 2 = .ptr (0, 2) (0, 2) 0 ∧
      o (0, 2) = some (.row ⟨79, 1, (0, 2), false, true, [.int .i64 N, .ref (1, 10) (1, 10) 0 N]⟩) ∧ o (1, 10) = some (.row ⟨40, 1, (1, 10), false, true, cs⟩)) := by
  simp only [Try.f38, Option.getD_some]
  simp only [go_sem, ↓IntWalk.iteOmega, IntWalk.toNatUp, Nat.reduceEqDiff, Nat.reduceAdd, Nat.reduceMul, Nat.reduceSub, Nat.reduceLT, Nat.reduceLeDiff, Int.reduceToNat, Int.reduceLT, Int.reduceLE, Int.reduceEq, Int.reduceAdd, Int.reduceSub, Int.reduceMul, Int.toNat_natCast, reduceCtorEq, decide_true, decide_false, IntWalk.i64_in, IntWalk.u64_in, IntWalk.u8_in, nz38, begin_]
  refine WP_loop (fun m a o nx => ∃ i cs, i ≤ fs.length ∧ m = fs.length - i ∧ NI 32 o nx cs (rowsOf N (fs.take i)) ∧ 2 ≤ nx ∧ a 2 = .ptr (0, 2) (0, 2) 0 ∧ a 3 = .ptr (1, 3) (1, 3) 0 ∧ a 13 = .sl fs.length (cP fs) ∧ a 14 = .int .i64 fs.length ∧ a 15 = .int .i64 i ∧
      (∃ x, o (0, 2) = some (.row ⟨79, 1, (0, 2), false, true, x⟩) ∧ x.length = 2) ∧ o (1, 3) = some (.row ⟨79, 1, (1, 3), false, true, [.int .i64 N, .ref (1, 10) (1, 10) 0 N]⟩) ∧ o (1, 10) = some (.row ⟨40, 1, (1, 10), false, true, cs⟩)) fs.length hk ⟨0, List.replicate N .nil, ?_⟩ ?_
  · simp only [go_sem, ↓IntWalk.iteOmega, IntWalk.toNatUp, Nat.reduceEqDiff, Nat.reduceAdd, Nat.reduceMul, Nat.reduceSub, Nat.reduceLT, Nat.reduceLeDiff, Int.reduceToNat, Int.reduceLT, Int.reduceLE, Int.reduceEq, Int.reduceAdd, Int.reduceSub, Int.reduceMul, Int.toNat_natCast, reduceCtorEq, decide_true, decide_false, IntWalk.i64_in, IntWalk.u64_in, IntWalk.u8_in, rep_one, List.take_zero, Nat.sub_zero]
    exact ⟨by omega, NI.start _ _ _ N, ⟨_, rfl, rfl⟩⟩
  · rintro m a o nx ⟨i, cs, hi, rfl, hNI, hnx, h2, h3, h13, h14, h15, ⟨x, hx, hxl⟩, ho3, ho10⟩
    by_cases hlt : i < fs.length
    · obtain ⟨hf0, hfN⟩ := hin (fs.getD i (0, 0)) (by simp [List.getD, hlt])
      have hat := cP_at hlt
      have htake := take_succ_getD hlt (0, 0)
      generalize fs.getD i (0, 0) = f at hf0 hfN hat htake
      obtain ⟨f, t⟩ := f
      simp only at hf0 hfN hat htake
      obtain ⟨j, rfl⟩ := Int.eq_ofNat_of_zero_le hf0
      have hrl := rowsOf_length N (fs.take i)
      have hcl : cs.length = N := by rw [hNI.1, hrl]
      have hjN : j < cs.length := by omega
      have hH := hNI.2.1 j (by omega)
      have hget := cs_get (s := 1) hjN
      generalize hv : cs.getD j .nil = v at hH hget
      have hspl : ∀ v, splice cs j [v] = cs.set j v := fun v => splice_eq cs j v hjN
      have hnext : rowsOf N (fs.take (i + 1)) = (rowsOf N (fs.take i)).set j ((rowsOf N (fs.take i)).getD j [] ++ [t]) := by rw [htake, rowsOf_snoc]; rfl
      have hjr : j < (rowsOf N (fs.take i)).length := by omega
      rcases hH with ⟨rfl, e2, e3⟩ | ⟨i1, g, rfl, hi1, hrow, hlen⟩
      · simp (disch := omega) only [go_sem, ↓IntWalk.iteOmega, IntWalk.toNatUp, Nat.reduceEqDiff, Nat.reduceAdd, Nat.reduceMul, Nat.reduceSub, Nat.reduceLT, Nat.reduceLeDiff, Int.reduceToNat, Int.reduceLT, Int.reduceLE, Int.reduceEq, Int.reduceAdd, Int.reduceSub, Int.reduceMul, Int.toNat_natCast, reduceCtorEq, decide_true, decide_false, IntWalk.i64_in, IntWalk.u64_in, IntWalk.u8_in, nz38, h2, h3, h13, h14, h15, ho3, ho10, hat, hget, hspl, IntWalk.i64_in]
        have e4 : (rowsOf N (fs.take i)).getD j [] = [] := List.length_eq_zero_iff.1 e2
        refine ⟨_, ?_, i + 1, _, by omega, rfl, ?_, by simp, ⟨x, hx, hxl⟩, rfl⟩
        · omega
        · rw [hnext, e4]
          exact NI.set (l := [t]) hNI hjr rfl (by omega) (by omega) (.inl ⟨hv, by omega⟩) (fun i' _ h => by simp [upd_app, h]) (by simp [upd_app, cI])
      · have hle := rowsOf_le N (fs.take i) j
        have hlt' : (fs.take i).length ≤ fs.length := by simp; omega
        generalize (rowsOf N (fs.take i)).getD j [] = r at *
        simp (disch := omega) only [go_sem, ↓IntWalk.iteOmega, IntWalk.toNatUp, Nat.reduceEqDiff, Nat.reduceAdd, Nat.reduceMul, Nat.reduceSub, Nat.reduceLT, Nat.reduceLeDiff, Int.reduceToNat, Int.reduceLT, Int.reduceLE, Int.reduceEq, Int.reduceAdd, Int.reduceSub, Int.reduceMul, Int.toNat_natCast, reduceCtorEq, decide_true, decide_false, IntWalk.i64_in, IntWalk.u64_in, IntWalk.u8_in, nz38, h2, h3, h13, h14, h15, ho3, ho10, hat, hget, hrow, hspl, IntWalk.i64_in]
        refine ⟨_, ?_, i + 1, _, by omega, rfl, ?_, by simp, ⟨x, hx, hxl⟩, rfl⟩
        · omega
        · rw [hnext]
          exact NI.set (l := r ++ [t]) hNI hjr (by simp) (by omega) (by omega) (.inr ⟨_, _, hv⟩) (fun i' _ h => by simp [upd_app, h]) (by simp [upd_app, cI])
    · have e : i = fs.length := by omega
      subst e
      rw [List.take_length] at hNI
      match x, hxl with
      | [x1, x2], _ =>
        simp only [go_sem, ↓IntWalk.iteOmega, IntWalk.toNatUp, Nat.reduceEqDiff, Nat.reduceAdd, Nat.reduceMul, Nat.reduceSub, Nat.reduceLT, Nat.reduceLeDiff, Int.reduceToNat, Int.reduceLT, Int.reduceLE, Int.reduceEq, Int.reduceAdd, Int.reduceSub, Int.reduceMul, Int.toNat_natCast, reduceCtorEq, decide_true, decide_false, IntWalk.i64_in, IntWalk.u64_in, IntWalk.u8_in, nz38, h2, h3, h13, h14, h15, ho3, ho10, hx]
        exact ⟨cs, hNI.keep (fun _ _ => by simp [upd_app]) (by omega), rfl⟩
abbrev closerV (N : Nat) (rows : List (List Int)) : AV := .agg [.int .i64 N, .sl N (rows.map slI)]
theorem look38 (X) : lookedAt (EX md0 X) nz38 1 Try.f38 = true := by kernel_rfl
theorem closing_ok (N : Nat) (S F : Int) (hN : N ≤ 1000) (ss fs) (hfs : fs.length ≤ 100000) (hin : ∀ p ∈ fs, 0 ≤ p.1 ∧ p.1 < (N : Int)) : Ok Try.prog 38 [nfaV N S F ss fs] (closerV N (rowsOf N fs)) := by
  refine ok_of_WP (E := EX md0 (fun _ _ => none)) (cr := noR) (tab_nil _) (noR_ok _) mixed (k := fs.length + 1) Try.func38 (look38 _) rfl (WP_mono (closing_wp _ _ _ _ N S F hN ss fs hfs (by omega) hin) ?_)
  rintro u a o nx ⟨rfl, cs, hNI, h2, ho2, ho10⟩
  have hv := hNI.view 9
  have hl : cs.length = N := by rw [hNI.1, rowsOf_length]
  refine ⟨.inr rfl, ?_⟩
  simp only [Try.f38, go_sem, ↓IntWalk.iteOmega, IntWalk.toNatUp, Nat.reduceEqDiff, Nat.reduceAdd, Nat.reduceMul, Nat.reduceSub, Nat.reduceLT, Nat.reduceLeDiff, Int.reduceToNat, Int.reduceLT, Int.reduceLE, Int.reduceEq, Int.reduceAdd, Int.reduceSub, Int.reduceMul, Int.toNat_natCast, reduceCtorEq, decide_true, decide_false, IntWalk.i64_in, IntWalk.u64_in, IntWalk.u8_in, h2, ho2, ho10, hl, hv, take_len hl]
end Go.Proofs.Ytcaemgpificohaa.A
