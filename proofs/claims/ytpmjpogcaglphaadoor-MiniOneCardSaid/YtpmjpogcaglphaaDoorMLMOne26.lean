/- The document's parting: alike, finer, parted. -/
import Derived.Test.YtpmjpogcaglphaaDoorMLMOne24
import Derived.Test.YtpmjpogcaglphaaDoorMLMOne25
set_option linter.unusedVariables false
set_option linter.unusedSimpArgs false
set_option linter.unnecessarySimpa false
namespace Go.Proofs.YtpmjpogcaglphaaDoor.A
open Go
set_option maxRecDepth 20000
def nL (l : List Nat) : List Int := l.map fun k : Nat => (k : Int)
theorem A1 (l) : (nL l).length = l.length := by simp [nL]
theorem cD4 (x y) : nL (x ++ y) = nL x ++ nL y := by simp [nL]
theorem cD5 (l : List Nat) (i : Nat) : (nL l).getD i 0 = (l.getD i 0 : Int) := by
 simp only [nL, List.getD, List.getElem?_map]
 cases l[i]? <;> rfl
theorem bW6 {x y : List Nat} (h : nL x = nL y) : x = y := List.map_inj_right (fun a b h => by omega) |>.1 h
theorem bi4 {l : List Nat} {i s : Nat} (h : i < l.length) : L7 false s ((cI (nL l)).drop i) = some (.int .i64 (l.getD i 0 : Nat)) := by
 rw [← cD5]
 exact Z8 (by rw [A1]; exact h)
theorem aT0 (x : List Nat) (n i k : Nat) (hx : x.length = i) (hi : i < n) : s6 (cI (nL x ++ List.replicate (n - i) 0)) i [.int .i64 (k : Int)] = cI (nL (x ++ [k]) ++ List.replicate (n - (i + 1)) 0) := by
 rw [aW6 _ _ _ (by rw [List.length_append, A1, List.length_replicate]; omega), List.set_append, if_neg (by rw [A1]; omega), A1, hx, Nat.sub_self]
 obtain ⟨d, hd⟩ : ∃ d, n - i = d + 1 := ⟨n - i - 1, by omega⟩
 rw [hd, show n - (i + 1) = d by omega, List.replicate_succ]
 simp [nL]
set_option maxRecDepth 20000
theorem bP2 (N c i) : (U4 N c i).2.length = i := (ai4 N c i).len
theorem bA1 {A : List Bool} {i : Nat} (h : i < A.length) : at6 (A.take (i + 1)) = at6 (A.take i) ++ [if A.getD i false then 1 else 0] := by
 rw [r7 h false]; simp [at6]
theorem bP3 (x : List Nat) (n i : Nat) (hi : i < n) : cI (nL x ++ List.replicate (n - i) 0) = cI (nL (x ++ [0]) ++ List.replicate (n - (i + 1)) 0) := by
 obtain ⟨d, hd⟩ : ∃ d, n - i = d + 1 := ⟨n - i - 1, by omega⟩
 rw [hd, show n - (i + 1) = d by omega, List.replicate_succ]
 simp [nL]
theorem bi5 {N : List Int} {len r : Nat} {c : List Nat} {k : Nat} {x : List Nat} (h : am0 N len r c k = some x) : ∃ r', r = r' + 1 ∧ (if (U4 N c len).1.length = k then (U4 N c len).2 = x else am0 N len r' (U4 N c len).2 (U4 N c len).1.length = some x) := by
 cases r with
 | zero => cases h
 | succ r =>
  refine ⟨r, rfl, ?_⟩
  rw [am0] at h
  split at h
  ·rename_i e; rw [if_pos e]; injection h
  ·rename_i e; rw [if_neg e]; exact h
end Go.Proofs.YtpmjpogcaglphaaDoor.A
