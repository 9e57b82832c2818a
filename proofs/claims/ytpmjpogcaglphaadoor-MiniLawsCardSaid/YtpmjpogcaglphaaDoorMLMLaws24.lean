/- Words that machines take, plainly: runs of them, states that are led to. -/
import Derived.Test.YtpmjpogcaglphaaDoorMLMLaws23
import Derived.Test.YtpmjpogcaglphaaDoorMLMLaws7
set_option linter.unusedVariables false
set_option linter.unusedSimpArgs false
set_option linter.unnecessarySimpa false
namespace Go.Proofs.YtpmjpogcaglphaaDoor.A
open Go
set_option maxRecDepth 20000
theorem WfD.okD {n N A} (h : WfD n N A) : OkD N A := ⟨by have := h.sz; have := h.a; omega, fun i hi => by rw [h.a] at hi; have := h.get hi; rw [h.a]; exact this⟩
theorem OkD.wf {N A} (h : OkD N A) (hl : N.length = 5 * A.length) (hm : A.length ≤ 2000) : WfD A.length N A := ⟨⟨h.l, hm⟩, hl, rfl, fun x hx => by
 obtain ⟨i, hi, rfl⟩ := List.getElem_of_mem hx
 have := h.e i (by omega)
 simpa [List.getD, hi] using this⟩
theorem bM0 {n N A} (h : WfD n N A) : WfD (Z1 N A).length (ar4 N A) (Z1 N A) := (bX4 h.okD).wf (bH0 h.okD) (by have := (bL9 h.okD).2; have := h.a; have := h.sz; omega)
def aP5 (w : List Int) : Prop := ∀ x ∈ w, 0 ≤ x ∧ x < 5
theorem bu1 {n N A} (h : WfD n N A) : ∀ (w : List Int) (s : Int), aP5 w → 0 ≤ s → s < (n : Int) → goD N s w = (goS N s.toNat (w.map Int.toNat) : Nat)
 | [], s, _, h0, _ => by rw [goD, List.map_nil, goS]; omega
 | m :: w, s, hw, h0, h1 => by
  have hm := hw m (List.mem_cons_self ..)
  rw [goD, if_neg (by omega), List.map_cons, goS]
  have := h.get (k := s.toNat * 5 + m.toNat) (by omega)
  exact bu1 h w _ (fun x hx => hw x (List.mem_cons_of_mem _ hx)) this.1 this.2
theorem bu2 {N : List Int} : ∀ (w : List Int) (s : Int), ¬ aP5 w → goD N s w = -1
 | [], s, h => absurd (fun x hx => by cases hx) h
 | m :: w, s, h => by
  rw [goD]
  by_cases hm : m < 0 ∨ 5 ≤ m
  ·rw [if_pos hm]
  ·rw [if_neg hm]
   refine bu2 w _ (fun hw => h (fun x hx => ?_))
   rcases List.mem_cons.1 hx with rfl | hx
   ·omega
   ·exact hw x hx
open Classical in
theorem bX7 {n N A} (h : WfD n N A) (w : List Int) : cf4 n N A w = if aP5 w then A.getD (goS N 0 (w.map Int.toNat)) false else false := by
 have hn := h.sz
 unfold cf4 aG6
 rw [if_pos (show (0 : Int) ≤ 0 ∧ (0 : Int) < (n : Int) by omega)]
 by_cases hw : aP5 w
 ·rw [if_pos hw, bu1 h w 0 hw (by omega) (by omega), if_pos (by omega)]
  rfl
 ·rw [if_neg hw, bu2 w 0 hw, if_neg (by omega)]
theorem bH1 (w : List Nat) : (w.map fun m : Nat => (m : Int)).map Int.toNat = w := by
 rw [List.map_map]
 exact List.map_id' w
theorem aq5 {w : List Nat} (h : ∀ m ∈ w, m < 5) : aP5 (w.map fun m : Nat => (m : Int)) := fun x hx => by
 obtain ⟨m, hm, rfl⟩ := List.mem_map.1 hx
 have := h m hm
 omega
theorem bu3 {n N A} (h : WfD n N A) {w : List Nat} (hw : ∀ m ∈ w, m < 5) : cf4 n N A (w.map fun m : Nat => (m : Int)) = A.getD (goS N 0 w) false := by
 rw [bX7 h, if_pos (aq5 hw), bH1]
end Go.Proofs.YtpmjpogcaglphaaDoor.A
namespace Go.Proofs.YtpmjpogcaglphaaDoor.A
open Go
set_option maxRecDepth 20000
theorem aI8 {N : List Int} {n i : Nat} (hN : N.length = 5 * n) (hlt : i < n) : ∃ row, ((cI N).drop (i * 5)).take 5 = row ∧ (∀ j, j < 5 → M5 false 1 (row.drop j) = some (.int .i64 (N.getD (i * 5 + j) 0))) ∧ row.length = 5 ∧ row.all n9 = true ∧ row.take 5 = row ∧ ((cI N).drop (i * 5)).length = N.length - i * 5 := by
 have hl5 : ((cI N).drop (i * 5)).length = N.length - i * 5 := by rw [List.length_drop, l5]
 have htl : (((cI N).drop (i * 5)).take 5).length = 5 := by rw [List.length_take, hl5]; omega
 refine ⟨_, rfl, fun j hj => ?_, htl, by rw [bk0, aM5]; exact as2 _, j0 htl, hl5⟩
 rw [List.drop_take, List.drop_drop]
 have hk : i * 5 + j < N.length := by omega
 have := av3 (s := 1) hk
 cases hd : (cI N).drop (i * 5 + j) with
 | nil => rw [hd] at this; cases this
 | cons y l =>
  rw [hd] at this
  obtain ⟨d, hd'⟩ : ∃ d, 5 - j = d + 1 := ⟨4 - j, by omega⟩
  rw [hd']
  exact this
set_option maxRecDepth 20000
structure PermL (k : Nat) (t : List Nat) : Prop where
 len : t.length = k
 lt : ∀ (i x : Nat), t[i]? = some x → x < k
 inj : ∀ (i j x : Nat), t[i]? = some x → t[j]? = some x → i = j
theorem PermL.range (k : Nat) : PermL k (List.range k) := by
 refine ⟨by simp, fun i x h => ?_, fun i j x h h' => ?_⟩
 ·have h1 := (List.getElem?_eq_some_iff.1 h).1
  have h2 := (List.getElem?_eq_some_iff.1 h).2
  simp at h1 h2
  omega
 ·have h2 := (List.getElem?_eq_some_iff.1 h).2
  have h3 := (List.getElem?_eq_some_iff.1 h').2
  simp at h2 h3
  omega
theorem PermL.nodup {k t} (h : PermL k t) : t.Nodup := by
 unfold List.Nodup
 rw [List.pairwise_iff_getElem]
 intro i j hi hj hij e
 have := h.inj i j t[i] (List.getElem?_eq_getElem hi) (by rw [e]; exact List.getElem?_eq_getElem hj)
 omega
theorem PermL.get {k t} (h : PermL k t) {i : Nat} (hi : i < k) : t[i]? = some (t.getD i 0) := by
 have : i < t.length := by rw [h.len]; exact hi
 simp [List.getD, this]
def bu4 (t : List Nat) (a b : Nat) : List Nat := (t.set a (t.getD b 0)).set b (t.getD a 0)
theorem aI9 {t : List Nat} {a b : Nat} (ha : a < t.length) (hb : b < t.length) (i : Nat) : (bu4 t a b)[i]? = if b = i then some (t.getD a 0) else if a = i then some (t.getD b 0) else t[i]? := by
 unfold bu4
 rw [List.getElem?_set, List.getElem?_set]
 simp only [List.length_set, hb, ha, if_true]
theorem PermL.swap {k t} (h : PermL k t) {a b : Nat} (ha : a < k) (hb : b < k) : PermL k (bu4 t a b) := by
 have la : a < t.length := by rw [h.len]; exact ha
 have lb : b < t.length := by rw [h.len]; exact hb
 refine ⟨by simp [bu4, h.len], fun i x hx => ?_, fun i j x hx hy => ?_⟩
 ·rw [aI9 la lb] at hx
  split at hx
  ·injection hx with hx; rw [← hx]; exact h.lt a _ (h.get ha)
  ·split at hx
   ·injection hx with hx; rw [← hx]; exact h.lt b _ (h.get hb)
   ·exact h.lt i x hx
 ·-- where a place's number stood before
  have key : ∀ i x, (bu4 t a b)[i]? = some x → t[if b = i then a else if a = i then b else i]? = some x := fun i x hx => by
   rw [aI9 la lb] at hx
   by_cases e : b = i
   ·rw [if_pos e] at hx ⊢
    rw [← hx]; exact h.get ha
   ·rw [if_neg e] at hx ⊢
    by_cases e2 : a = i
    ·rw [if_pos e2] at hx ⊢
     rw [← hx]; exact h.get hb
    ·rw [if_neg e2] at hx ⊢
     exact hx
  have := h.inj _ _ x (key i x hx) (key j x hy)
  split at this <;> split at this <;> (try split at this) <;> (try split at this) <;> omega
set_option maxRecDepth 20000
end Go.Proofs.YtpmjpogcaglphaaDoor.A
