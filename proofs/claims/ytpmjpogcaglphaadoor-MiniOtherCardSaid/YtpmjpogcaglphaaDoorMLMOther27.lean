/- The document's parting: alike, finer, parted. -/
import Derived.Test.YtpmjpogcaglphaaDoorMLMOther25
import Derived.Test.YtpmjpogcaglphaaDoorMLMOther26
set_option linter.unusedVariables false
set_option linter.unusedSimpArgs false
set_option linter.unnecessarySimpa false
namespace Go.Proofs.YtpmjpogcaglphaaDoor.A
open Go
set_option maxRecDepth 20000
def nL (l : List Nat) : List Int := l.map fun k : Nat => (k : Int)
theorem z6 (l) : (nL l).length = l.length := by simp [nL]
theorem bN6 (x y) : nL (x ++ y) = nL x ++ nL y := by simp [nL]
theorem cv8 (l : List Nat) (i : Nat) : (nL l).getD i 0 = (l.getD i 0 : Int) := by
 simp only [nL, List.getD, List.getElem?_map]
 cases l[i]? <;> rfl
theorem bN7 {x y : List Nat} (h : nL x = nL y) : x = y := List.map_inj_right (fun a b h => by omega) |>.1 h
theorem bb9 {l : List Nat} {i s : Nat} (h : i < l.length) : H6 false s ((cI (nL l)).drop i) = some (.int .i64 (l.getD i 0 : Nat)) := by
 rw [← cv8]
 exact I0 (by rw [z6]; exact h)
theorem aO2 (x : List Nat) (n i k : Nat) (hx : x.length = i) (hi : i < n) : r7 (cI (nL x ++ List.replicate (n - i) 0)) i [.int .i64 (k : Int)] = cI (nL (x ++ [k]) ++ List.replicate (n - (i + 1)) 0) := by
 rw [au5 _ _ _ (by rw [List.length_append, z6, List.length_replicate]; omega), List.set_append, if_neg (by rw [z6]; omega), z6, hx, Nat.sub_self]
 obtain ⟨d, hd⟩ : ∃ d, n - i = d + 1 := ⟨n - i - 1, by omega⟩
 rw [hd, show n - (i + 1) = d by omega, List.replicate_succ]
 simp [nL]
set_option maxRecDepth 20000
theorem bH2 (N c i) : (R7 N c i).2.length = i := (af1 N c i).len
theorem bt0 {A : List Bool} {i : Nat} (h : i < A.length) : ap7 (A.take (i + 1)) = ap7 (A.take i) ++ [if A.getD i false then 1 else 0] := by
 rw [p6 h false]; simp [ap7]
theorem bH3 (x : List Nat) (n i : Nat) (hi : i < n) : cI (nL x ++ List.replicate (n - i) 0) = cI (nL (x ++ [0]) ++ List.replicate (n - (i + 1)) 0) := by
 obtain ⟨d, hd⟩ : ∃ d, n - i = d + 1 := ⟨n - i - 1, by omega⟩
 rw [hd, show n - (i + 1) = d by omega, List.replicate_succ]
 simp [nL]
theorem bc0 {N : List Int} {len r : Nat} {c : List Nat} {k : Nat} {x : List Nat} (h : ai4 N len r c k = some x) : ∃ r', r = r' + 1 ∧ (if (R7 N c len).1.length = k then (R7 N c len).2 = x else ai4 N len r' (R7 N c len).2 (R7 N c len).1.length = some x) := by
 cases r with
 | zero => cases h
 | succ r =>
  refine ⟨r, rfl, ?_⟩
  rw [ai4] at h
  split at h
  ·rename_i e; rw [if_pos e]; injection h
  ·rename_i e; rw [if_neg e]; exact h
end Go.Proofs.YtpmjpogcaglphaaDoor.A
