/- nfa.Build: the machine of any tree. -/
import Derived.Test.YtpmjpogcaglphaaDoorMLMLaws10
set_option linter.unusedVariables false
set_option linter.unusedSimpArgs false
set_option linter.unnecessarySimpa false
namespace Go.Proofs.YtpmjpogcaglphaaDoor.A
open Go
set_option maxRecDepth 20000
abbrev b0 : BS := ⟨0, [], []⟩
def ap0 (r : (Int × Int) × BS) : AV := if r.2.n > 1000 then .tup [ao2 0 0 0 [] [], .int .i64 4] else .tup [ao2 r.2.n r.1.1 r.1.2 r.2.s r.2.f, .int .i64 0]
def R0 (id : Nat) : Option (List (Nat × Nat)) := if id = 5 then some [(4, 15), (6, 15), (8, 15), (15, 20), (15, 21), (4, 22), (6, 22), (8, 22), (13, 22), (14, 22), (15, 22), (4, 24), (6, 24), (8, 24), (13, 24), (14, 24), (15, 24), (20, 24), (21, 24), (22, 24)] else none
theorem bn9 (X) : f7 (EX md0 X) R0 1 Tryd.f46 = true := by kernel_rfl
theorem bc7 : u9 Tryd.prog (p5 [(76, B3 x8), (77, B3 T9)]) ∧ Up (p5 [(76, B3 x8), (77, B3 T9)]) :=
 m9 (m9 (G7 _) fun args H v H' h => (v8 h).1) fun args H v H' h => (v8 h).1
theorem bo0 (z : List AV) (n : Nat) : (rep z n).length = n * z.length := by
 induction n with
 | zero => simp [rep]
 | succ n ih => rw [rep, List.length_append, ih, Nat.succ_mul]; omega
theorem aO2 {x : Nd} (hk : okN x = true) (hh : hN x ≤ 1000) : Ok Tryd.prog 46 [j5 x] (ap0 (d7 x b0)) := by
 obtain ⟨cr, hcr⟩ : ∃ cr, cr = p5 [(76, B3 x8), (77, B3 T9)] := ⟨_, rfl⟩
 have hP : cr 76 = B3 x8 := by rw [hcr]; rfl
 have hU : cr 77 = B3 T9 := by rw [hcr]; rfl
 have hbd := af2 x hk b0
 obtain ⟨r, hr⟩ : ∃ r, r = d7 x b0 := ⟨_, rfl⟩
 refine m5 (E := EX md0 (fun _ _ => none)) (cr := cr) (nz := R0) (A8 _) (hcr ▸ bc7) mixed (k := 0) Tryd.func46 (bn9 _) rfl ?_
 clear hcr
 simp only [Tryd.f46, Option.getD_some]
 simp (disch := omega) only [go_sem, hP, R0]
 have hB0 : BAt (upd (upd (upd (fun x => none) (0, 1) (.row ⟨37, 1, (0, 1), false, true, cNd x⟩)) (0, 2) (.row ⟨82, 1, (0, 2), false, true, [.int .i64 0, .int .i64 0, .int .i64 0, .nil, .nil]⟩)) (1, 8) (.row ⟨134, 1, (1, 8), false, true, [.int .i64 0, .int .i64 0, .int .i64 0, .nil, .nil]⟩)) 3 1 b0 :=
  ⟨.nil, .nil, by omega, f8 _ _ _, HS.nil, HS.nil⟩
 refine ac1 (aw0 x hk hh 1 _ _ b0 hB0 ⟨Nat.le_refl _, Nat.le_refl _, by show 0 + 2 * hN x ≤ _; omega⟩) hB0 ?_
 intro o1 nx1 hle1 hB1 hk1
 have hx2 : o1 (0, 2) = some (.row ⟨82, 1, (0, 2), false, true, [.int .i64 0, .int .i64 0, .int .i64 0, .nil, .nil]⟩) := by rw [hk1 _ _ (by omega) (fun e => absurd e (by decide)) (by decide) (by decide)]; simp [d6]
 clear hB0 hk1
 rw [← hr] at hB1 ⊢
 have b1 : r.2.n ≤ 4000 := by have := hbd.hi; rw [hr]; have : b0.n = 0 := rfl; omega
 have b2 : r.2.f.length ≤ 16000 := by have := hbd.f4; have e1 : b0.n = 0 := rfl; have e2 : b0.f.length = 0 := rfl; rw [← hr] at this; omega
 have b3 : r.2.s.length ≤ 4000 := by have := hbd.s1; have e1 : b0.n = 0 := rfl; have e2 : b0.s.length = 0 := rfl; rw [← hr] at this; omega
 clear hr hbd
 simp (disch := omega) only [go_sem, hU, R0]
 refine U2 (hB1.slot2 (fun i j hj => ?_) (by omega)) ?_
 ·have : j ≠ 5 := by omega
  simp [d6, this]
 intro o2 nx2 hle2 hB2 hk2
 have hx22 : o2 (0, 2) = some (.row ⟨82, 1, (0, 2), false, true, [.int .i64 0, .int .i64 0, .int .i64 0, .nil, .nil]⟩) := by rw [hk2 _ _ (by omega) (fun e => absurd e (by decide)) (by decide) (by decide)]; simp [d6, hx2]
 have hx5 : o2 (2, 5) = some (.row ⟨136, 1, (2, 5), false, true, [.int .i64 r.1.1, .int .i64 r.1.2]⟩) := by rw [hk2 _ _ (by omega) (fun e => absurd e (by decide)) (by decide) (by decide)]; simp [d6]
 clear hk2 hB1 hx2
 by_cases hfull : (1000 : Int) < r.2.n
 ·have e : ap0 r = .tup [ao2 0 0 0 [] [], .int .i64 4] := if_pos (by omega)
  rw [e]
  simp (disch := omega) only [go_sem, hfull, hx22, R0]
  rfl
 ·have e : ap0 r = .tup [ao2 r.2.n r.1.1 r.1.2 r.2.s r.2.f, .int .i64 0] := if_neg (by omega)
  rw [e]
  obtain ⟨vS, vF, hB⟩ := hB2
  have r1 := hB.lt
  have r2 := hB.row
  have r3 := hB.s.ok
  have r4 := hB.f.ok
  have s0 := aT4 (x := r.2.s) (y := [])
  have f0 := aG3 (x := r.2.f) (y := [])
  have l3 := bo0 [.int .i64 0, .int .i64 0, .int .i64 0] r.2.s.length
  have l2 := bo0 [.int .i64 0, .int .i64 0] r.2.f.length
  simp only [List.length_cons, List.length_nil, Nat.zero_add, Nat.reduceAdd] at l3 l2
  have d3 : (rep [.int .i64 0, .int .i64 0, .int .i64 0] r.2.s.length).drop (r.2.s.length * 3) = [] := List.drop_of_length_le (by omega)
  have d2 : (rep [.int .i64 0, .int .i64 0] r.2.f.length).drop (r.2.f.length * 2) = [] := List.drop_of_length_le (by omega)
  rcases hB.s with ⟨rfl, q2, q3⟩ | ⟨i1, g1, rfl, hi1, hrow, hlen⟩
  ·rcases hB.f with ⟨rfl, q5, q6⟩ | ⟨i2, g2, rfl, hi2, hrow2, hlen2⟩
   ·simp (disch := omega) only [go_sem, hfull, hx22, hx5, r2, R0]
    rw [s0 q3, f0 q6]
    rfl
   ·simp (disch := omega) only [go_sem, hfull, hx22, hx5, r2, R0, hrow2, l2, l3, d2, d3]
    rw [s0 q3]
    rfl
  ·rcases hB.f with ⟨rfl, q5, q6⟩ | ⟨i2, g2, rfl, hi2, hrow2, hlen2⟩
   ·simp (disch := omega) only [go_sem, hfull, hx22, hx5, r2, R0, hrow, l2, l3, d2, d3]
    rw [f0 q6]
    rfl
   ·simp (disch := omega) only [go_sem, hfull, hx22, hx5, r2, R0, hrow, hrow2, l2, l3, d2, d3]
set_option maxRecDepth 20000
set_option maxRecDepth 20000
def InN (n : Nat) (v : Int) : Prop := 0 ≤ v ∧ v < (n : Int)
theorem InN.mono {n n' : Nat} {v : Int} (h : InN n v) (hn : n ≤ n') : InN n' v := ⟨h.1, by have := h.2; omega⟩
structure WB (b : BS) : Prop where
 f : ∀ p ∈ b.f, InN b.n p.1 ∧ InN b.n p.2
 s : ∀ q ∈ b.s, InN b.n q.1 ∧ InN b.n q.2.1 ∧ 1 ≤ q.2.2 ∧ q.2.2 ≤ 31
theorem WB.state {b : BS} (h : WB b) : WB b.state := ⟨fun p hp => ⟨(h.f p hp).1.mono (Nat.le_succ _), (h.f p hp).2.mono (Nat.le_succ _)⟩, fun q hq => ⟨(h.s q hq).1.mono (Nat.le_succ _), (h.s q hq).2.1.mono (Nat.le_succ _), (h.s q hq).2.2⟩⟩
theorem WB.frees {b : BS} (h : WB b) {l : List (Int × Int)} (hl : ∀ p ∈ l, InN b.n p.1 ∧ InN b.n p.2) : WB (b.frees l) := ⟨fun p hp => by
 rcases List.mem_append.1 hp with hp | hp
 ·exact h.f p hp
 ·exact hl p hp, h.s⟩
def af4 (f : BF) : Prop := ∀ b, WB b → WB (f b).2 ∧ InN (f b).2.n (f b).1.1 ∧ InN (f b).2.n (f b).1.2 ∧ b.n ≤ (f b).2.n
theorem W5 : ∀ (fs : List BF) (b : BS) (out : List (Int × Int)), (∀ f ∈ fs, af4 f) → WB b → (∀ p ∈ out, InN b.n p.1 ∧ InN b.n p.2) → WB (d8 fs b out).2 ∧ (∀ p ∈ (d8 fs b out).1, InN (d8 fs b out).2.n p.1 ∧ InN (d8 fs b out).2.n p.2) ∧ b.n ≤ (d8 fs b out).2.n ∧ (fs ≠ [] → 0 < (d8 fs b out).2.n)
 | [], b, out, _, hb, ho => ⟨hb, ho, Nat.le_refl _, fun h => absurd rfl h⟩
 | f :: fs, b, out, hf, hb, ho => by
  rw [d8]
  by_cases hn : b.n > 1000
  ·rw [if_pos hn]
   exact ⟨hb, fun p hp => (by cases hp), Nat.le_refl _, fun _ => by show 0 < b.n; omega⟩
  ·rw [if_neg hn]
   obtain ⟨h1, h2, h3, h4⟩ := hf f List.mem_cons_self b hb
   obtain ⟨g1, g2, g3, _⟩ := W5 fs (f b).2 (out ++ [(f b).1]) (fun g hg => hf g (List.mem_cons_of_mem _ hg)) h1 (fun p hp => by
    rcases List.mem_append.1 hp with hp | hp
    ·exact ⟨(ho p hp).1.mono h4, (ho p hp).2.mono h4⟩
    ·rw [List.mem_singleton.1 hp]; exact ⟨h2, h3⟩)
   exact ⟨g1, g2, Nat.le_trans h4 g3, fun _ => by have := h2.1; have := h2.2; omega⟩
theorem aO3 (n : Nat) : InN (n + 1) (n : Int) := ⟨by omega, by omega⟩
theorem ap1 {f : BF} (hf : af4 f) (ar bk : Bool) : af4 (T7 f ar bk) := by
 intro b hb
 obtain ⟨h1, h2, h3, h4⟩ := hf b.state hb.state
 have e1 : b.state.n = b.n + 1 := rfl
 have e2 : (f b.state).2.state.n = (f b.state).2.n + 1 := rfl
 have i0 : InN (f b.state).2.state.n (b.n : Int) := ⟨by omega, by rw [e2]; omega⟩
 have i1 : InN (f b.state).2.state.n ((f b.state).2.n : Int) := by rw [e2]; exact aO3 _
 have i2 := h2.mono (n' := (f b.state).2.state.n) (by rw [e2]; omega)
 have i3 := h3.mono (n' := (f b.state).2.state.n) (by rw [e2]; omega)
 refine ⟨h1.state.frees (fun p hp => ?_), i0, i1, by show b.n ≤ (f b.state).2.n + 1; omega⟩
 simp only [List.mem_append] at hp
 rcases hp with ((hp | hp) | hp) | hp
 ·rw [List.mem_singleton.1 hp]; exact ⟨i0, i2⟩
 ·split at hp
  ·rw [List.mem_singleton.1 hp]; exact ⟨i0, i1⟩
  ·cases hp
 ·split at hp
  ·rw [List.mem_singleton.1 hp]; exact ⟨i3, i2⟩
  ·cases hp
 ·rw [List.mem_singleton.1 hp]; exact ⟨i3, i1⟩
theorem aw1 {n : Nat} : ∀ (l : List (Int × Int)), (∀ p ∈ l, InN n p.1 ∧ InN n p.2) → ∀ p ∈ M8 l, InN n p.1 ∧ InN n p.2
 | [], _, p, hp => by rw [M8] at hp; cases hp; intro _ _ _ h; cases h
 | [_], _, p, hp => by rw [M8] at hp; cases hp; intro _ _ _ h; cases h
 | a :: b :: l, h, p, hp => by
  rw [M8] at hp
  rcases List.mem_cons.1 hp with rfl | hp
  ·exact ⟨(h a List.mem_cons_self).2, (h b (List.mem_cons_of_mem _ List.mem_cons_self)).1⟩
  ·exact aw1 (b :: l) (fun p hp => h p (List.mem_cons_of_mem _ hp)) p hp
theorem ap2 {n : Nat} {lo e : Int} (he : InN n e) : ∀ (i : Nat) (l : List (Int × Int)), (∀ p ∈ l, InN n p.1 ∧ InN n p.2) → ∀ p ∈ r9 lo e i l, InN n p.1 ∧ InN n p.2
 | i, [], _, p, hp => by rw [r9] at hp; cases hp
 | i, [a], h, p, hp => by rw [r9] at hp; rw [List.mem_singleton.1 hp]; exact ⟨(h a List.mem_cons_self).2, he⟩
 | i, a :: b :: l, h, p, hp => by
  rw [r9] at hp
  rcases List.mem_append.1 hp with hp | hp
  ·split at hp
   ·rw [List.mem_singleton.1 hp]; exact ⟨(h a List.mem_cons_self).2, he⟩
   ·cases hp
  ·rcases List.mem_cons.1 hp with rfl | hp
   ·exact ⟨(h a List.mem_cons_self).2, (h b (List.mem_cons_of_mem _ List.mem_cons_self)).1⟩
   ·exact ap2 he (i + 1) (b :: l) (fun p hp => h p (List.mem_cons_of_mem _ hp)) p hp
theorem bC8 {f : BF} (hf : af4 f) (lo : Int) (k : Nat) : af4 (z6 lo k f) := by
 intro b hb
 obtain ⟨h1, h2, h3, _⟩ := W5 (List.replicate k f) b.state [] (fun g hg => by rw [List.eq_of_mem_replicate hg]; exact hf) hb.state (fun p hp => by cases hp)
 have hbr : z6 lo k f b = if (d8 (List.replicate k f) b.state []).2.state.n > 1000 then (((b.n : Int), ((d8 (List.replicate k f) b.state []).2.n : Int)), (d8 (List.replicate k f) b.state []).2.state) else (((b.n : Int), ((d8 (List.replicate k f) b.state []).2.n : Int)), (d8 (List.replicate k f) b.state []).2.state.frees (Y6 b.n (d8 (List.replicate k f) b.state []).1 ++ r9 lo (d8 (List.replicate k f) b.state []).2.n 0 (d8 (List.replicate k f) b.state []).1 ++ (if lo = 0 then [((b.n : Int), ((d8 (List.replicate k f) b.state []).2.n : Int))] else []))) := rfl
 obtain ⟨r, hr⟩ : ∃ r, r = d8 (List.replicate k f) b.state [] := ⟨_, rfl⟩
 rw [← hr] at h1 h2 h3 hbr
 have e1 : b.state.n = b.n + 1 := rfl
 have e2 : r.2.state.n = r.2.n + 1 := rfl
 have i0 : InN r.2.state.n (b.n : Int) := ⟨by omega, by rw [e2]; omega⟩
 have i1 : InN r.2.state.n (r.2.n : Int) := by rw [e2]; exact aO3 _
 have h2' : ∀ p ∈ r.1, InN r.2.state.n p.1 ∧ InN r.2.state.n p.2 := fun p hp => ⟨(h2 p hp).1.mono (by rw [e2]; omega), (h2 p hp).2.mono (by rw [e2]; omega)⟩
 rw [hbr]
 split
 ·exact ⟨h1.state, i0, i1, by show b.n ≤ r.2.n + 1; omega⟩
 ·refine ⟨h1.state.frees (fun p hp => ?_), i0, i1, by show b.n ≤ r.2.n + 1; omega⟩
  rcases List.mem_append.1 hp with hp | hp
  ·rcases List.mem_append.1 hp with hp | hp
   ·cases hr1 : r.1 with
    | nil => rw [hr1] at hp; cases hp
    | cons a l =>
     rw [hr1] at hp h2'
     rw [List.mem_singleton.1 hp]
     exact ⟨i0, (h2' a List.mem_cons_self).1⟩
   ·exact ap2 i1 0 r.1 h2' p hp
  ·split at hp
   ·rw [List.mem_singleton.1 hp]; exact ⟨i0, i1⟩
   ·cases hp
theorem bc8 {fs : List BF} (hf : ∀ f ∈ fs, af4 f) : af4 (T8 fs) := by
 intro b hb
 obtain ⟨h1, h2, h3, _⟩ := W5 fs b.state [] hf hb.state (fun p hp => by cases hp)
 have hbr : T8 fs b = (((b.n : Int), ((d8 fs b.state []).2.n : Int)), (d8 fs b.state []).2.state.frees (ao7 b.n (d8 fs b.state []).2.n (d8 fs b.state []).1)) := rfl
 obtain ⟨r, hr⟩ : ∃ r, r = d8 fs b.state [] := ⟨_, rfl⟩
 rw [← hr] at h1 h2 h3 hbr
 have e1 : b.state.n = b.n + 1 := rfl
 have e2 : r.2.state.n = r.2.n + 1 := rfl
 have i0 : InN r.2.state.n (b.n : Int) := ⟨by omega, by rw [e2]; omega⟩
 have i1 : InN r.2.state.n (r.2.n : Int) := by rw [e2]; exact aO3 _
 rw [hbr]
 refine ⟨h1.state.frees (fun p hp => ?_), i0, i1, by show b.n ≤ r.2.n + 1; omega⟩
 obtain ⟨q, hq, hp⟩ := List.mem_flatMap.1 hp
 have q1 := (h2 q hq).1.mono (n' := r.2.state.n) (by rw [e2]; omega)
 have q2 := (h2 q hq).2.mono (n' := r.2.state.n) (by rw [e2]; omega)
 rcases List.mem_cons.1 hp with rfl | hp
 ·exact ⟨i0, q1⟩
 ·rw [List.mem_singleton.1 hp]; exact ⟨q2, i1⟩
theorem aH3 {α : Type} {l : List α} (h : l ≠ []) (d : α) : l.getLastD d ∈ l := by
 rw [List.getLastD_eq_getLast?, List.getLast?_eq_some_getLast h]
 exact List.getLast_mem h
theorem bo1 {fs : List BF} (hf : ∀ f ∈ fs, af4 f) (hne : fs ≠ []) : af4 (ab8 fs) := by
 intro b hb
 obtain ⟨h1, h2, h3, h4⟩ := W5 fs b [] hf hb (fun p hp => by cases hp)
 have hbr : ab8 fs b = if (d8 fs b []).2.n > 1000 ∨ (d8 fs b []).1 = [] then ((0, 0), (d8 fs b []).2) else ((((d8 fs b []).1.headD (0, 0)).1, ((d8 fs b []).1.getLastD (0, 0)).2), (d8 fs b []).2.frees (M8 (d8 fs b []).1)) := rfl
 obtain ⟨r, hr⟩ : ∃ r, r = d8 fs b [] := ⟨_, rfl⟩
 rw [← hr] at h1 h2 h3 h4 hbr
 have hpos := h4 hne
 rw [hbr]
 split
 ·exact ⟨h1, ⟨Int.le_refl _, by show (0 : Int) < r.2.n; omega⟩, ⟨Int.le_refl _, by show (0 : Int) < r.2.n; omega⟩, h3⟩
 ·rename_i hc
  have hne' : r.1 ≠ [] := fun e => hc (.inr e)
  refine ⟨h1.frees (aw1 r.1 h2), ?_, ?_, h3⟩
  ·cases hr1 : r.1 with
   | nil => exact absurd hr1 hne'
   | cons a l => rw [hr1] at h2; exact (h2 a List.mem_cons_self).1
  ·exact (h2 _ (aH3 hne' _)).2
mutual
def okS : Nd → Bool
 | .mk kind set _ _ l => bU1 l && (if kind = 1 then decide (1 ≤ set ∧ set ≤ 31) else true)
def bU1 : List Nd → Bool
 | [] => true
 | x :: l => okS x && bU1 l
end
theorem bo2 {kind set : Int} (h : kind = 1 → 1 ≤ set ∧ set ≤ 31) : af4 (az7 kind set) := by
 intro b hb
 have i0 : InN (b.n + 1 + 1) (b.n : Int) := ⟨by omega, by omega⟩
 have i1 : InN (b.n + 1 + 1) ((b.n : Int) + 1) := ⟨by omega, by omega⟩
 have hw := hb.state.state
 unfold az7
 dsimp only
 by_cases k1 : kind = 1
 ·rw [if_pos k1]
  refine ⟨⟨hw.f, fun q hq => ?_⟩, i0, i1, by show b.n ≤ b.n + 1 + 1; omega⟩
  rcases List.mem_append.1 hq with hq | hq
  ·exact hw.s q hq
  ·rw [List.mem_singleton.1 hq]; exact ⟨i0, i1, h k1⟩
 rw [if_neg k1]
 split
 ·refine ⟨⟨fun p hp => ?_, hw.s⟩, i0, i1, by show b.n ≤ b.n + 1 + 1; omega⟩
  rcases List.mem_append.1 hp with hp | hp
  ·exact hw.f p hp
  ·rw [List.mem_singleton.1 hp]; exact ⟨i0, i1⟩
 ·exact ⟨hw, i0, i1, by show b.n ≤ b.n + 1 + 1; omega⟩
mutual
theorem aH4 : ∀ (x : Nd), okN x = true → okS x = true → af4 (d7 x)
 | .mk kind set lo hi l, hk, hs => by
  rw [okN, Bool.and_eq_true] at hk
  rw [okS, Bool.and_eq_true] at hs
  obtain ⟨hk1, hk2⟩ := hk
  have hl := ap3 l hk1 hs.1
  rw [d7]
  have hd : 0 < l.length → af4 ((l6 l).headD fun b => ((0, 0), b)) := fun h => by
   cases l with
   | nil => exact absurd h (by simp)
   | cons x l => exact hl _ (by rw [l6]; exact List.mem_cons_self)
  have hne : 0 < l.length → l6 l ≠ [] := fun h e => by
   have := congrArg List.length e
   rw [I9] at this
   simp only [List.length_nil] at this; omega
  unfold az8
  by_cases k4 : kind = 4
  ·rw [if_pos k4]
   rw [if_pos (.inl k4), decide_eq_true_eq] at hk2
   exact bo1 hl (hne hk2.1)
  by_cases k5 : kind = 5
  ·rw [if_neg k4, if_pos k5]
   exact bc8 hl
  by_cases k6 : kind = 6
  ·rw [if_neg k4, if_neg k5, if_pos k6]
   rw [if_pos (.inr (.inr (.inl k6))), decide_eq_true_eq] at hk2
   exact ap1 (hd hk2.1) _ _
  by_cases k7 : kind = 7
  ·rw [if_neg k4, if_neg k5, if_neg k6, if_pos k7]
   rw [if_pos (.inr (.inr (.inr (.inl k7)))), decide_eq_true_eq] at hk2
   exact ap1 (hd hk2.1) _ _
  by_cases k8 : kind = 8
  ·rw [if_neg k4, if_neg k5, if_neg k6, if_neg k7, if_pos k8]
   rw [if_pos (.inr (.inr (.inr (.inr k8)))), decide_eq_true_eq] at hk2
   exact ap1 (hd hk2.1) _ _
  by_cases k9 : kind = 9
  ·rw [if_neg k4, if_neg k5, if_neg k6, if_neg k7, if_neg k8, if_pos k9]
   rw [if_neg (by omega), if_pos k9, decide_eq_true_eq] at hk2
   exact bC8 (hd hk2.1) _ _
  rw [if_neg k4, if_neg k5, if_neg k6, if_neg k7, if_neg k8, if_neg k9]
  exact bo2 (fun k1 => by have := hs.2; rw [if_pos k1, decide_eq_true_eq] at this; exact this)
theorem ap3 : ∀ (l : List Nd), as4 l = true → bU1 l = true → ∀ f ∈ l6 l, af4 f
 | [], _, _, f, hf => by rw [l6] at hf; cases hf
 | x :: l, hk, hs, f, hf => by
  rw [as4, Bool.and_eq_true] at hk
  rw [bU1, Bool.and_eq_true] at hs
  rw [l6] at hf
  rcases List.mem_cons.1 hf with e | hf
  ·have := aH4 x hk.1 hs.1
   rw [e]; exact this
  ·exact ap3 l hk.2 hs.2 f hf
end
theorem wb0 : WB b0 := ⟨fun p hp => (by cases hp), fun q hq => (by cases hq)⟩
theorem aU7 {x : Nd} (hk : okN x = true) (hs : okS x = true) (hn : (d7 x b0).2.n ≤ 1000) : Wf (d7 x b0).2.n (d7 x b0).1.1 (d7 x b0).1.2 (d7 x b0).2.s (d7 x b0).2.f ∧ (d7 x b0).2.s.length ≤ 1000 := by
 obtain ⟨hw, h1, h2, _⟩ := aH4 x hk hs b0 wb0
 have hbd := af2 x hk b0
 have b4 := hbd.f4
 have b5 := hbd.s1
 have z1 : b0.n = 0 := rfl
 have z2 : b0.f.length = 0 := rfl
 have z3 : b0.s.length = 0 := rfl
 exact ⟨⟨hn, h1, h2, by omega, by omega, fun p hp => ⟨(hw.s p hp).1, (hw.s p hp).2.1⟩, fun p hp => hw.f p hp⟩, by omega⟩
end Go.Proofs.YtpmjpogcaglphaaDoor.A
