/- Words that machines take, plainly: runs of them, states that are led to. -/
import Derived.Test.YtpmjpogcaglphaaDoorMLMOther23
import Derived.Test.YtpmjpogcaglphaaDoorMLMOther7
set_option linter.unusedVariables false
set_option linter.unusedSimpArgs false
set_option linter.unnecessarySimpa false
namespace Go.Proofs.YtpmjpogcaglphaaDoor.A
open Go
set_option maxRecDepth 20000
theorem WfD.okD {n N A} (h : WfD n N A) : OkD N A := ⟨by have := h.sz; have := h.a; omega, fun i hi => by rw [h.a] at hi; have := h.get hi; rw [h.a]; exact this⟩
theorem OkD.wf {N A} (h : OkD N A) (hl : N.length = 5 * A.length) (hm : A.length ≤ 2000) : WfD A.length N A := ⟨⟨h.l, hm⟩, hl, rfl, fun x hx => by
 obtain ⟨i, hi, rfl⟩ := List.getElem_of_mem hx
 have := h.e i (by omega)
 simpa [List.getD, hi] using this⟩
theorem cv5 {n N A} (h : WfD n N A) : WfD (I5 N A).length (R5 N A) (I5 N A) := (aN9 h.okD).wf (bG4 h.okD) (by have := (bN4 h.okD).2; have := h.a; have := h.sz; omega)
def aO1 (w : List Int) : Prop := ∀ x ∈ w, 0 ≤ x ∧ x < 5
theorem bs3 {w : List Int} (h : aO1 w) : ∀ m ∈ w.map Int.toNat, m < 5 := fun m hm => by
 obtain ⟨x, hx, rfl⟩ := List.mem_map.1 hm
 have := h x hx
 omega
theorem bs4 {n N A} (h : WfD n N A) : ∀ (w : List Int) (s : Int), aO1 w → 0 ≤ s → s < (n : Int) → goD N s w = (goS N s.toNat (w.map Int.toNat) : Nat)
 | [], s, _, h0, _ => by rw [goD, List.map_nil, goS]; omega
 | m :: w, s, hw, h0, h1 => by
  have hm := hw m (List.mem_cons_self ..)
  rw [goD, if_neg (by omega), List.map_cons, goS]
  have := h.get (k := s.toNat * 5 + m.toNat) (by omega)
  exact bs4 h w _ (fun x hx => hw x (List.mem_cons_of_mem _ hx)) this.1 this.2
theorem bs5 {N : List Int} : ∀ (w : List Int) (s : Int), ¬ aO1 w → goD N s w = -1
 | [], s, h => absurd (fun x hx => by cases hx) h
 | m :: w, s, h => by
  rw [goD]
  by_cases hm : m < 0 ∨ 5 ≤ m
  ·rw [if_pos hm]
  ·rw [if_neg hm]
   refine bs5 w _ (fun hw => h (fun x hx => ?_))
   rcases List.mem_cons.1 hx with rfl | hx
   ·omega
   ·exact hw x hx
open Classical in
theorem bs6 {n N A} (h : WfD n N A) (w : List Int) : bv8 n N A w = if aO1 w then A.getD (goS N 0 (w.map Int.toNat)) false else false := by
 have hn := h.sz
 unfold bv8 T3
 rw [if_pos (show (0 : Int) ≤ 0 ∧ (0 : Int) < (n : Int) by omega)]
 by_cases hw : aO1 w
 ·rw [if_pos hw, bs4 h w 0 hw (by omega) (by omega), if_pos (by omega)]
  rfl
 ·rw [if_neg hw, bs5 w 0 hw, if_neg (by omega)]
theorem bG8 {n N A} (h : WfD n N A) {w : List Int} (hw : aO1 w) : bv8 n N (A.map (!·)) w = !bv8 n N A w := by
 have h' : WfD n N (A.map (!·)) := ⟨h.sz, h.l, by rw [List.length_map]; exact h.a, h.e⟩
 rw [bs6 h, bs6 h', if_pos hw, if_pos hw, U3 (h.okD.go _ _ (bs3 hw) h.okD.l)]
def I6 (n : Nat) (N : List Int) : Bool := (List.range (5 * n)).all fun i => decide (N.getD ((N.getD i 0).toNat * 5 + i % 5) 0 = N.getD i 0)
theorem bs7 {n N} (h : I6 n N = true) {i : Nat} (hi : i < 5 * n) : N.getD ((N.getD i 0).toNat * 5 + i % 5) 0 = N.getD i 0 := of_decide_eq_true (List.all_eq_true.1 h i (List.mem_range.2 hi))
end Go.Proofs.YtpmjpogcaglphaaDoor.A
