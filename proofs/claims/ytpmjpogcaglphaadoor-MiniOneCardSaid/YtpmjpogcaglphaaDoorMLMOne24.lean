/- Words that machines take, plainly: runs of them, states that are led to. -/
import Derived.Test.YtpmjpogcaglphaaDoorMLMOne23
import Derived.Test.YtpmjpogcaglphaaDoorMLMOne7
set_option linter.unusedVariables false
set_option linter.unusedSimpArgs false
set_option linter.unnecessarySimpa false
namespace Go.Proofs.YtpmjpogcaglphaaDoor.A
open Go
set_option maxRecDepth 20000
theorem WfD.okD {n N A} (h : WfD n N A) : OkD N A := ⟨by have := h.sz; have := h.a; omega, fun i hi => by rw [h.a] at hi; have := h.get hi; rw [h.a]; exact this⟩
theorem OkD.wf {N A} (h : OkD N A) (hl : N.length = 5 * A.length) (hm : A.length ≤ 2000) : WfD A.length N A := ⟨⟨h.l, hm⟩, hl, rfl, fun x hx => by
 obtain ⟨i, hi, rfl⟩ := List.getElem_of_mem hx
 have := h.e i (by omega)
 simpa [List.getD, hi] using this⟩
theorem bz4 {n N A} (h : WfD n N A) : WfD (O3 N A).length (aa1 N A) (O3 N A) := (by7 h.okD).wf (bO9 h.okD) (by have := (ba5 h.okD).2; have := h.a; have := h.sz; omega)
def ab3 (w : List Int) : Prop := ∀ x ∈ w, 0 ≤ x ∧ x < 5
theorem bz5 {w : List Int} (h : ab3 w) : ∀ m ∈ w.map Int.toNat, m < 5 := fun m hm => by
 obtain ⟨x, hx, rfl⟩ := List.mem_map.1 hm
 have := h x hx
 omega
theorem bz6 {n N A} (h : WfD n N A) : ∀ (w : List Int) (s : Int), ab3 w → 0 ≤ s → s < (n : Int) → goD N s w = (goS N s.toNat (w.map Int.toNat) : Nat)
 | [], s, _, h0, _ => by rw [goD, List.map_nil, goS]; omega
 | m :: w, s, hw, h0, h1 => by
  have hm := hw m (List.mem_cons_self ..)
  rw [goD, if_neg (by omega), List.map_cons, goS]
  have := h.get (k := s.toNat * 5 + m.toNat) (by omega)
  exact bz6 h w _ (fun x hx => hw x (List.mem_cons_of_mem _ hx)) this.1 this.2
theorem bz7 {N : List Int} : ∀ (w : List Int) (s : Int), ¬ ab3 w → goD N s w = -1
 | [], s, h => absurd (fun x hx => by cases hx) h
 | m :: w, s, h => by
  rw [goD]
  by_cases hm : m < 0 ∨ 5 ≤ m
  ·rw [if_pos hm]
  ·rw [if_neg hm]
   refine bz7 w _ (fun hw => h (fun x hx => ?_))
   rcases List.mem_cons.1 hx with rfl | hx
   ·omega
   ·exact hw x hx
open Classical in
theorem aS9 {n N A} (h : WfD n N A) (w : List Int) : ay6 n N A w = if ab3 w then A.getD (goS N 0 (w.map Int.toNat)) false else false := by
 have hn := h.sz
 unfold ay6 ay5
 rw [if_pos (show (0 : Int) ≤ 0 ∧ (0 : Int) < (n : Int) by omega)]
 by_cases hw : ab3 w
 ·rw [if_pos hw, bz6 h w 0 hw (by omega) (by omega), if_pos (by omega)]
  rfl
 ·rw [if_neg hw, bz7 w 0 hw, if_neg (by omega)]
theorem bz8 {n N A k M B} (h : WfD n N A) (h' : WfD k M B) (he : Eqv N A M B 0 0) (w : List Int) : ay6 n N A w = ay6 k M B w := by
 rw [aS9 h, aS9 h']
 by_cases hw : ab3 w
 ·rw [if_pos hw, if_pos hw]
  exact he _ (bz5 hw)
 ·rw [if_neg hw, if_neg hw]
theorem bP0 (w : List Nat) : (w.map fun m : Nat => (m : Int)).map Int.toNat = w := by
 rw [List.map_map]
 exact List.map_id' w
theorem bz9 {w : List Nat} (h : ∀ m ∈ w, m < 5) : ab3 (w.map fun m : Nat => (m : Int)) := fun x hx => by
 obtain ⟨m, hm, rfl⟩ := List.mem_map.1 hx
 have := h m hm
 omega
theorem bA0 {n N A} (h : WfD n N A) {w : List Nat} (hw : ∀ m ∈ w, m < 5) : ay6 n N A (w.map fun m : Nat => (m : Int)) = A.getD (goS N 0 w) false := by
 rw [aS9 h, if_pos (bz9 hw), bP0]
def ci0 (n : Nat) (N : List Int) : Bool := (List.range (5 * n)).all fun i => decide (N.getD ((N.getD i 0).toNat * 5 + i % 5) 0 = N.getD i 0)
end Go.Proofs.YtpmjpogcaglphaaDoor.A
namespace Go.Proofs.YtpmjpogcaglphaaDoor.A
open Go
set_option maxRecDepth 20000
theorem aL7 {N : List Int} {n i : Nat} (hN : N.length = 5 * n) (hlt : i < n) : ∃ row, ((cI N).drop (i * 5)).take 5 = row ∧ (∀ j, j < 5 → L7 false 1 (row.drop j) = some (.int .i64 (N.getD (i * 5 + j) 0))) ∧ row.length = 5 ∧ row.all p8 = true ∧ row.take 5 = row ∧ ((cI N).drop (i * 5)).length = N.length - i * 5 := by
 have hl5 : ((cI N).drop (i * 5)).length = N.length - i * 5 := by rw [List.length_drop, m4]
 have htl : (((cI N).drop (i * 5)).take 5).length = 5 := by rw [List.length_take, hl5]; omega
 refine ⟨_, rfl, fun j hj => ?_, htl, by rw [bo5, aP8]; exact av5 _, f7 htl, hl5⟩
 rw [List.drop_take, List.drop_drop]
 have hk : i * 5 + j < N.length := by omega
 have := Z8 (s := 1) hk
 cases hd : (cI N).drop (i * 5 + j) with
 | nil => rw [hd] at this; cases this
 | cons y l =>
  rw [hd] at this
  obtain ⟨d, hd'⟩ : ∃ d, 5 - j = d + 1 := ⟨4 - j, by omega⟩
  rw [hd']
  exact this
def dq9 (args : List AV) (r : AV) : Prop := ∃ (n : Nat) (N : List Int) (A : List Bool), WfD n N A ∧ args = [Z4 n N A] ∧ r = .bool (ci0 n N)
set_option maxRecDepth 20000
structure PermL (k : Nat) (t : List Nat) : Prop where
 len : t.length = k
 lt : ∀ (i x : Nat), t[i]? = some x → x < k
 inj : ∀ (i j x : Nat), t[i]? = some x → t[j]? = some x → i = j
theorem PermL.range (k : Nat) : PermL k (List.range k) := by
 refine ⟨by simp, fun i x h => ?_, fun i j x h h' => ?_⟩
 ·have h1 := (List.getElem?_eq_some_iff.1 h).1
  have h2 := (List.getElem?_eq_some_iff.1 h).2
  simp at h1 h2
  omega
 ·have h2 := (List.getElem?_eq_some_iff.1 h).2
  have h3 := (List.getElem?_eq_some_iff.1 h').2
  simp at h2 h3
  omega
theorem PermL.nodup {k t} (h : PermL k t) : t.Nodup := by
 unfold List.Nodup
 rw [List.pairwise_iff_getElem]
 intro i j hi hj hij e
 have := h.inj i j t[i] (List.getElem?_eq_getElem hi) (by rw [e]; exact List.getElem?_eq_getElem hj)
 omega
set_option maxRecDepth 20000
end Go.Proofs.YtpmjpogcaglphaaDoor.A
