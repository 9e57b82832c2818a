/- The document's parting: alike, finer, parted. -/
import Derived.Test.YtpmjpogcaglphaaDoorMLMLaws24
import Derived.Test.YtpmjpogcaglphaaDoorMLMLaws25
set_option linter.unusedVariables false
set_option linter.unusedSimpArgs false
set_option linter.unnecessarySimpa false
namespace Go.Proofs.YtpmjpogcaglphaaDoor.A
open Go
set_option maxRecDepth 20000
def nL (l : List Nat) : List Int := l.map fun k : Nat => (k : Int)
theorem A5 (l) : (nL l).length = l.length := by simp [nL]
theorem cs0 (x y) : nL (x ++ y) = nL x ++ nL y := by simp [nL]
theorem cs1 (l : List Nat) (i : Nat) : (nL l).getD i 0 = (l.getD i 0 : Int) := by
 simp only [nL, List.getD, List.getElem?_map]
 cases l[i]? <;> rfl
theorem bM1 {x y : List Nat} (h : nL x = nL y) : x = y := List.map_inj_right (fun a b h => by omega) |>.1 h
theorem be5 {l : List Nat} {i s : Nat} (h : i < l.length) : M5 false s ((cI (nL l)).drop i) = some (.int .i64 (l.getD i 0 : Nat)) := by
 rw [← cs1]
 exact av3 (by rw [A5]; exact h)
theorem aP6 (x : List Nat) (n i k : Nat) (hx : x.length = i) (hi : i < n) : r8 (cI (nL x ++ List.replicate (n - i) 0)) i [.int .i64 (k : Int)] = cI (nL (x ++ [k]) ++ List.replicate (n - (i + 1)) 0) := by
 rw [aT1 _ _ _ (by rw [List.length_append, A5, List.length_replicate]; omega), List.set_append, if_neg (by rw [A5]; omega), A5, hx, Nat.sub_self]
 obtain ⟨d, hd⟩ : ∃ d, n - i = d + 1 := ⟨n - i - 1, by omega⟩
 rw [hd, show n - (i + 1) = d by omega, List.replicate_succ]
 simp [nL]
set_option maxRecDepth 20000
theorem bH2 (N c i) : (R6 N c i).2.length = i := (af8 N c i).len
theorem bu5 {A : List Bool} {i : Nat} (h : i < A.length) : aq3 (A.take (i + 1)) = aq3 (A.take i) ++ [if A.getD i false then 1 else 0] := by
 rw [t8 h false]; simp [aq3]
theorem bH3 (x : List Nat) (n i : Nat) (hi : i < n) : cI (nL x ++ List.replicate (n - i) 0) = cI (nL (x ++ [0]) ++ List.replicate (n - (i + 1)) 0) := by
 obtain ⟨d, hd⟩ : ∃ d, n - i = d + 1 := ⟨n - i - 1, by omega⟩
 rw [hd, show n - (i + 1) = d by omega, List.replicate_succ]
 simp [nL]
theorem be6 {N : List Int} {len r : Nat} {c : List Nat} {k : Nat} {x : List Nat} (h : aj0 N len r c k = some x) : ∃ r', r = r' + 1 ∧ (if (R6 N c len).1.length = k then (R6 N c len).2 = x else aj0 N len r' (R6 N c len).2 (R6 N c len).1.length = some x) := by
 cases r with
 | zero => cases h
 | succ r =>
  refine ⟨r, rfl, ?_⟩
  rw [aj0] at h
  split at h
  ·rename_i e; rw [if_pos e]; injection h
  ·rename_i e; rw [if_neg e]; exact h
end Go.Proofs.YtpmjpogcaglphaaDoor.A
