/- Machines of one way out of machines of many: Subsets. -/
import Derived.Test.YtpmjpogcaglphaaDoorMLMLaws21
set_option linter.unusedVariables false
set_option linter.unusedSimpArgs false
set_option linter.unnecessarySimpa false
namespace Go.Proofs.YtpmjpogcaglphaaDoor.A
open Go
set_option maxRecDepth 20000
@[go_sem] theorem cE9 (o d k) : view o d (.mp k) = .und := by cases d <;> rfl
@[go_sem] theorem cF0 (o d k) : b9 o d (.mp k) = [] := by cases d <;> rfl
noncomputable def fS (N : Nat) (ss : List St3) (fs : List (Int × Int)) (b : List Bool) (m : Nat) : List Bool := az2 N (t7 N fs) ss b (m : Int)
noncomputable def t0S (N : Nat) (S : Int) (fs : List (Int × Int)) : List Bool := B8 N (t7 N fs) [S]
noncomputable def aw4 (N : Nat) (S : Int) (ss : List St3) (fs : List (Int × Int)) (cap : Nat) : Option (List (List Bool) × List Nat) := bs0 (fS N ss fs) cap 1002 0 [t0S N S fs] []
def R4 (l : List Nat) : List Int := l.map Int.ofNat
def ac6 (F : Int) (L : List (List Bool)) : List Bool := L.map fun b => b.getD F.toNat false
theorem bG2 : (instBEqOfDecidableEq : BEq (List Bool)) = List.instBEq := by
 have h : ∀ (a b : BEq (List Bool)) (_ : ∀ x y, a.beq x y = b.beq x y), a = b := fun a b h => by
  cases a; cases b
  congr
  funext x y
  exact h x y
 refine h _ _ fun x y => ?_
 rw [Bool.eq_iff_iff]
 exact ⟨fun e => by rw [show x = y from of_decide_eq_true e]; exact beq_self_eq_true y, fun e => decide_eq_true (eq_of_beq (α := List Bool) e)⟩
theorem bs8 (f : List Bool → Nat → List Bool) (x m L) : F5 f x (m + 1) L = (aj8 (F5 f x m L).1 (f x m), (F5 f x m L).2 ++ [(F5 f x m L).1.idxOf (f x m)]) := by
 have h : F5 f x (m + 1) L = (aj8 (F5 f x m L).1 (f x m), (F5 f x m L).2 ++ [@List.idxOf _ instBEqOfDecidableEq (f x m) (F5 f x m L).1]) := rfl
 rw [bG2] at h
 exact h
theorem SubAt.slot {o nx N S F ss fs lr L} (h : SubAt o nx N S F ss fs lr L) {o' : Ob} {nx' : Nat} (hk : ∀ j k, k ≠ 11 → k ≠ 9 → k ≠ 93 → k ≠ 106 → k ≠ 92 → k ≠ 105 → o' (j, k) = o (j, k)) (hn : nx ≤ nx') : SubAt o' nx' N S F ss fs lr L := by
 obtain ⟨lcs, vS, scs, h⟩ := h
 have h2 := h.two
 have hk : ∀ j k, (k = 20 ∨ k = 17 ∨ k = 18 ∨ k = 44 ∨ k = 45 ∨ k = 34) → o' (j, k) = o (j, k) := fun j k h => hk j k (by omega) (by omega) (by omega) (by omega) (by omega) (by omega)
 exact ⟨lcs, vS, scs, ⟨by omega, by rw [hk _ _ (by decide)]; exact h.row, by rw [hk _ _ (by decide)]; exact h.leads, h.rows.keep (fun i hi => hk i _ (by decide)) hn, h.ll, by rw [hk _ _ (by decide)]; exact h.known, h.hs.keep (fun i hi => hk i _ (by decide)) hn, h.ni.keep (fun i hi => hk i _ (by decide)) hn, h.ne⟩⟩
theorem aW8 (x y) : R4 (x ++ y) = R4 x ++ R4 y := by simp [R4]
theorem u1 (x) : (R4 x).length = x.length := by simp [R4]
theorem y6 (F L) : (ac6 F L).length = L.length := by simp [ac6]
theorem aq1 (N ss fs b m) : (fS N ss fs b m).length = N := by unfold fS az2; exact I8 ..
theorem af7 (N S fs) : (t0S N S fs).length = N := I8 ..
def cr6 : AV := .tup [.agg [.sl 0 [], .sl 0 []], .int .i64 5]
noncomputable def cf8 (F : Int) (r : Option (List (List Bool) × List Nat)) : AV := match r with
 | none => cr6
 | some (L, R) => .tup [ar3 L.length (R4 R) (ac6 F L), .int .i64 0]
noncomputable def bW7 : FuncId → List AV → Option AV := p4 [(79, E3 cf7), (81, E3 cE8)]
theorem bW8 : m7 Tryd.prog bW7 := k0 (k0 (p9 _) (n5 bW5)) (n5 bs7)
theorem bG3 {N : Nat} {S F : Int} {ss fs} (hw : Wf N S F ss fs) (l : List Int) (h : l.length ≤ 9000000) : bW7 79 [ao2 N S F ss fs, slI l] = some (slI (B4 (B8 N (t7 N fs) l))) := m8 (R := cf7) bs6 ⟨_, _, _, _, _, _, hw, h, rfl, rfl⟩
theorem bG4 (N S F : Int) (rest : List AV) (l : List Int) (h : l.length ≤ 100000) : bW7 81 [.fptr (.int .i64 N :: .int .i64 S :: .int .i64 F :: rest), slI l] = some (.bool (decide (F ∈ l))) := m8 (R := cE8) bW3 ⟨_, _, _, _, _, h, rfl, rfl⟩
def U5 : Nat → Option (List (Nat × Nat))
 | 1 => some [(0, 3), (0, 4), (2, 4), (3, 4)]
 | 5 => some [(3, 15), (5, 15), (9, 15), (11, 15), (13, 15), (3, 16), (5, 16)]
 | 20 => some [(1, 3), (3, 6), (4, 6), (3, 11), (4, 11), (3, 14), (4, 14), (6, 16)]
 | 21 => some [(3, 5), (3, 6), (1, 7), (2, 7), (3, 7), (1, 9), (2, 9), (3, 9), (5, 9), (6, 9), (7, 9)]
 | _ => none
theorem bW9 (X) : f7 (EX md0 X) U5 2 Tryd.f47 = true := by kernel_rfl
set_option maxHeartbeats 4000000 in
theorem cr7 (N : Nat) (S F : Int) (ss fs) (hN : N ≤ 1000) (hw : Wf N S F ss fs) (hss : ss.length ≤ 1000) (cap : Nat) (hc1 : 1 ≤ cap) (hc2 : cap ≤ 1000) :
  WP (EX md0 bW7) be1 1003 U5 (Tryd.f47.body.getD .skip) (y0 [ao2 N S F ss fs, .int .i64 cap]) (fun _ => none) 0 (fun u a o nx => u = .ret ∧ view o n6 (.tup [(N4 Tryd.prog 27 (a 4) ⟨o, nx⟩).getD .und, a 5]) = cf8 F (aw4 N S ss fs cap)) := by
 have hS := hw.s
 have hF := hw.f
 simp only [Tryd.f47, Option.getD_some]
 simp (disch := omega) only [go_sem, U5, ay9]
 refine u2 (fun mm a o nx => ∃ i lcs, i ≤ ss.length ∧ mm = ss.length - i ∧ SubRow o nx N S F ss fs (t6 N (ss.take i)) [] lcs .nil [] ∧ a 1 = .int .i64 cap ∧ a 2 = .ptr (0, 2) (0, 2) 0 ∧ a 4 = .ptr (0, 4) (0, 4) 0 ∧ a 5 = .int .i64 0 ∧ a 6 = bG0 ∧ a 22 = .sl ss.length (cS ss) ∧ a 23 = .int .i64 ss.length ∧ a 24 = .int .i64 i ∧ o (0, 2) = some (.row ⟨82, 1, (0, 2), false, true, [.int .i64 N, .int .i64 S, .int .i64 F, .sl ss.length (cS ss), .sl fs.length (cP fs)]⟩) ∧ o (0, 4) = some (.row ⟨27, 1, (0, 4), false, true, [.nil, .nil]⟩)) ss.length (by omega) ⟨0, List.replicate N .nil, by omega, by omega, ⟨by omega, ?_, ?_, NS.start _ _ _ N, by simp [t6], ?_, HS.nil, ⟨rfl, fun j hj => absurd hj (by simp), fun j j' i g n g' n' _ h => by simp at h⟩, fun x hx => absurd hx (by simp)⟩, ?_⟩ ?_
 ·simp (disch := omega) only [go_sem]
 ·simp (disch := omega) only [go_sem]
 ·simp (disch := omega) only [go_sem]
  rfl
 ·simp (disch := omega) only [go_sem]
 rintro mm a o nx ⟨i, lcs, hi, rfl, hR, h1, h2, h4, h5, h6, h22, h23, h24, ho2, ho4⟩
 have htwo := hR.two
 have ho20 := hR.row
 have ho17 := hR.leads
 have ho18 := hR.known
 have hNS := hR.rows
 by_cases hlt : i < ss.length
 ·obtain ⟨⟨hf0, hfN⟩, _⟩ := hw.steps (ss.getD i (0, 0, 0)) (W2 hlt _)
  have hat := cm1 hlt
  have htake := t8 hlt (0, 0, 0)
  generalize ss.getD i (0, 0, 0) = p at hf0 hfN hat htake
  obtain ⟨f, t, set⟩ := p
  simp only at hf0 hfN hat htake
  obtain ⟨j, rfl⟩ := Int.eq_ofNat_of_zero_le hf0
  have hrl := O2 N (ss.take i)
  have hcl : lcs.length = N := by rw [hNS.1, hrl]
  have hjN : j < lcs.length := by omega
  have hH := hNS.2.1 j (by omega)
  have hget := av5 (s := 1) hjN
  generalize hv : lcs.getD j .nil = v at hH hget
  have hspl : ∀ v, r8 lcs j [v] = lcs.set j v := fun v => aa8 lcs j v hjN
  have hnext : t6 N (ss.take (i + 1)) = (t6 N (ss.take i)).set j ((t6 N (ss.take i)).getD j [] ++ [((j : Int), t, set)]) := by rw [htake, aI4]; rfl
  have hjr : j < (t6 N (ss.take i)).length := by omega
  have hle := af6 N (ss.take i) j
  have hlt' : (ss.take i).length ≤ ss.length := by simp; omega
  rcases hH with ⟨rfl, e2, e3⟩ | ⟨i1, g, rfl, hi1, hrow, hlen⟩
  ·simp (disch := omega) only [go_sem, U5, h1, h2, h4, h5, h6, h22, h23, h24, ho2, ho4, ho20, ho17, hat, hget, hspl]
   have e4 : (t6 N (ss.take i)).getD j [] = [] := List.length_eq_zero_iff.1 e2
   refine ⟨_, ?_, i + 1, _, by omega, rfl, ⟨by omega, ?_, f8 _ _ _, ?_, O2 _ _, ?_, HS.nil, ?_, fun x hx => absurd hx (by simp)⟩, rfl⟩
   ·omega
   ·simp (disch := omega) only [go_sem, ho20]
   ·rw [hnext, e4]
    exact NS.set (l := [((j : Int), t, set)]) hNS hjr rfl (by omega) (by omega) (.inl ⟨hv, by omega⟩) (fun i' _ h => by simp [d6, h]) (by simp [d6, cS])
   ·simp (disch := omega) only [go_sem, ho18]
   ·exact hR.ni.keep (fun _ _ => by simp [d6]) (by omega)
  ·generalize (t6 N (ss.take i)).getD j [] = r at *
   simp (disch := omega) only [go_sem, U5, h1, h2, h4, h5, h6, h22, h23, h24, ho2, ho4, ho20, ho17, hat, hget, hspl, hrow]
   refine ⟨_, ?_, i + 1, _, by omega, rfl, ⟨by omega, ?_, f8 _ _ _, ?_, O2 _ _, ?_, HS.nil, ?_, fun x hx => absurd hx (by simp)⟩, rfl⟩
   ·omega
   ·simp (disch := omega) only [go_sem, ho20]
   ·rw [hnext]
    exact NS.set (l := r ++ [((j : Int), t, set)]) hNS hjr (by simp) (by omega) (by omega) (.inr ⟨_, _, hv⟩) (fun i' _ h => by simp [d6, h]) (by simp [d6, cS])
   ·simp (disch := omega) only [go_sem, ho18]
   ·exact hR.ni.keep (fun _ _ => by simp [d6]) (by omega)
 ·have hie : i = ss.length := by omega
  subst hie
  rw [List.take_length] at hR
  have hclo : bW7 79 [ao2 N S F ss fs, .sl 1 [.int .i64 S]] = some (slI (B4 (t0S N S fs))) := bG3 hw [S] (by simp)
  have hk0 : BKeep40 nx o (C9 [(nx + 1, 51)] (upd o (nx + 1, 51) (.row ⟨3, 1, (nx + 1, 51), false, true, [.int .i64 S]⟩))) := fun i k hi hk => by
   rw [P0 (by simp; omega), D8 (by omega)]
  simp (disch := omega) only [go_sem, U5, h1, h2, h4, h5, h6, h22, h23, h24, ho2, ho4, hclo]
  refine aW7 hN (SubAt.keep ⟨lcs, .nil, [], hR⟩ hk0 (by omega)) (fun b hb => absurd hb (by simp)) (by simp) (af7 N S fs) ?_
  intro o1 nx1 hle1 hS1 hkp1
  have hm1 : aj8 [] (t0S N S fs) = [t0S N S fs] := rfl
  rw [hm1] at hS1
  have ho4' : o1 (0, 4) = some (.row ⟨27, 1, (0, 4), false, true, [.nil, .nil]⟩) := by
   rw [hkp1 0 4 (by omega) (by decide) (by decide) (by decide) (by decide), hk0 0 4 (by omega) (by decide)]
   exact ho4
  clear hR ho2 ho4 hNS ho20 ho17 ho18 hkp1 hk0 hclo
  simp (disch := omega) only [go_sem, U5, h1, h2, h4, h5, h6, h22, h23, h24]
  have two1 : 2 ≤ nx1 := by omega
  refine u2 (fun mm a o nx => ∃ i L R q9 vN vA, bs0 (fS N ss fs) cap (1002 - i) i L R = aw4 N S ss fs cap ∧ mm = 1002 - i ∧ i ≤ L.length ∧ 1 ≤ L.length ∧ L.length ≤ cap ∧ R.length = i * 5 ∧ (∀ b ∈ L, b.length = N) ∧ SubAt o nx N S F ss fs (t6 N ss) L ∧ q9 < nx ∧ o (q9, 9) = some (.row ⟨27, 1, (q9, 9), false, true, [vN, vA]⟩) ∧ HS 54 5 93 o nx vN i (cI (R4 R)) ∧ HS 4 1 106 o nx vA i (cB (ac6 F (L.take i))) ∧ o (0, 4) = some (.row ⟨27, 1, (0, 4), false, true, [.nil, .nil]⟩) ∧ a 1 = .int .i64 cap ∧ a 4 = .ptr (0, 4) (0, 4) 0 ∧ a 5 = .int .i64 0 ∧ a 6 = bG0 ∧ a 9 = .ptr (q9, 9) (q9, 9) 0 ∧ a 10 = .int .i64 i) 1002 (by omega)
   ⟨0, [t0S N S fs], [], nx1, .nil, .nil, rfl, by omega, by simp, by simp, by simp; omega, rfl, fun b hb => by rw [List.mem_singleton.1 hb]; exact af7 N S fs, hS1.keep (fun i k hi hk => by rw [D8 (by omega)]) (by omega), by omega, f8 _ _ _, HS.nil, HS.nil, by simp (disch := omega) only [go_sem, ho4'], by simp (disch := omega) only [go_sem, h1], by simp (disch := omega) only [go_sem, h4], by simp (disch := omega) only [go_sem, h5], by simp (disch := omega) only [go_sem, h6], by simp (disch := omega) only [go_sem], by simp (disch := omega) only [go_sem]⟩ ?_
  clear hS1 ho4' h1 h2 h4 h5 h6 h22 h23 h24
  rintro mm a o nx ⟨i, L, R, q9, vN, vA, hB, rfl, hi, hL1, hLc, hRl, hLN, hSub, hq9, ho9, hvN, hvA, ho4, h1, h4, h5, h6, h9, h10⟩
  have hSub' := hSub
  obtain ⟨lcs, vS, scs, hR⟩ := hSub'
  have two := hR.two
  have ho20 := hR.row
  have hLs := hR.hs
  by_cases hlt : i < L.length
  ·rcases hLs with ⟨_, e, _⟩ | ⟨i5, g5, rfl, hi5, hro5, hl5⟩
   ·omega
   obtain ⟨x, hx⟩ : ∃ x, L[i]? = some x := ⟨_, List.getElem?_eq_getElem hlt⟩
   have hxN := hLN x (List.mem_of_getElem? hx)
   simp (disch := omega) only [go_sem, U5, h1, h4, h5, h6, h9, h10, ho20]
   refine u2 (fun mm a o' nx' => ∃ m q11, m ≤ 5 ∧ mm = 5 - m ∧ nx ≤ nx' ∧ SubAt o' nx' N S F ss fs (t6 N ss) (F5 (fS N ss fs) x m L).1 ∧ (F5 (fS N ss fs) x m L).1.length ≤ cap ∧ nx ≤ q11 ∧ q11 < nx' ∧ o' (q11, 11) = some (.row ⟨54, 1, (q11, 11), false, true, cI (R4 (F5 (fS N ss fs) x m L).2 ++ List.replicate (5 - m) 0)⟩) ∧ (∀ j k, j < nx → (k = 9 ∨ k = 93 ∨ k = 106 ∨ k = 4) → o' (j, k) = o (j, k)) ∧
    a 1 = .int .i64 cap ∧ a 4 = .ptr (0, 4) (0, 4) 0 ∧ a 5 = .int .i64 0 ∧ a 6 = bG0 ∧ a 9 = .ptr (q9, 9) (q9, 9) 0 ∧ a 10 = .int .i64 i ∧ a 11 = .ptr (q11, 11) (q11, 11) 0 ∧ a 63 = .int .i64 m) 5 (by omega)
    ⟨0, nx + 1, by omega, by omega, by omega, hSub.keep (fun j k hj hk => by rw [D8 (by omega)]) (by omega), hLc, by omega, by omega, f8 _ _ _, fun j k hj hk => by rw [D8 (by omega)], by simp (disch := omega) only [go_sem, h1], by simp (disch := omega) only [go_sem, h4], by simp (disch := omega) only [go_sem, h5], by simp (disch := omega) only [go_sem, h6], by simp (disch := omega) only [go_sem, h9], by simp (disch := omega) only [go_sem, h10], by simp (disch := omega) only [go_sem], by simp (disch := omega) only [go_sem]⟩ ?_
   clear hR ho20 hro5 hl5 hSub h1 h4 h5 h6 h9 h10
   rintro mm a o' nx' ⟨m, q11, hm, rfl, hnx', hSub, hcap, hq11', hq11, ho11, hkp, h1, h4, h5, h6, h9, h10, h11, h63⟩
   have hpre := aB1 (f := fS N ss fs) x m L
   have hrl := ac5 (f := fS N ss fs) x m L
   have hrN := aV9 (f := fS N ss fs) (fun b => b.length = N) x (fun m => aq1 N ss fs x m) m hLN
   have hx' := aP2 hpre hx
   have hsucc := bs8 (fS N ss fs) x m L
   by_cases hm5 : m < 5
   ·have hSub' := hSub
    obtain ⟨lcs', vS', scs', hR'⟩ := hSub'
    have ho20 := hR'.row
    have hltL : i < (F5 (fS N ss fs) x m L).1.length := (List.getElem?_eq_some_iff.1 hx').1
    generalize hL' : (F5 (fS N ss fs) x m L).1 = L' at *
    generalize hR2 : (F5 (fS N ss fs) x m L).2 = R' at *
    rcases hR'.hs with ⟨_, e, _⟩ | ⟨i6, g6, rfl, hi6, hro6, hl6⟩
    ·omega
    have hsl : i < scs'.length := by omega
    have hget := av5 (s := 1) hsl
    have hgi : (L'.map B4).getD i [] = B4 x := by simp [List.getD, hx']
    have hH := hR'.ni.2.1 i (by simpa using hltL)
    rw [hgi] at hH
    rcases hH with ⟨e, _, _⟩ | ⟨i7, g7, e7, hi7, hro7, _⟩
    ·exact absurd e (hR'.ne _ (W2 hsl _))
    rw [e7] at hget
    simp (disch := omega) only [go_sem, U5, h1, h4, h5, h6, h9, h10, h11, h63, ho20, hro6, hget]
    refine bW6 (by omega) hw hss (hSub.keep (fun _ _ _ _ => rfl) (by omega)) hxN (by omega) hro7 (by omega) ?_
    intro o2 nx2 hle2 hk2
    obtain ⟨t, ht⟩ : ∃ t, t = fS N ss fs x m := ⟨_, rfl⟩
    have hst : az2 N (t7 N fs) ss x (m : Int) = t := ht.symm
    have htl : t.length = N := by rw [ht]; exact aq1 N ss fs x m
    rw [← ht] at hsucc
    rw [hst]
    simp (disch := omega) only [go_sem, U5, h1, h4, h5, h6, h9, h10, h11, h63]
    refine aW7 hN ((hSub.keep (nx' := nx' + 1 + 1 + 1) (fun _ _ _ _ => rfl) (by omega)).keep hk2 (by omega)) hrN (by omega) htl ?_
    intro o3 nx3 hle3 hS3 hk3
    have old : ∀ j k, j < nx' → k ≠ 20 → k ≠ 18 → k ≠ 45 → k ≠ 40 → o3 (j, k) = o' (j, k) := fun j k hj a1 a2 a3 a4 => by
     rw [hk3 j k (by omega) a1 a2 a3 a4, hk2 j k (by omega) a4]
    have ho11' := (old q11 11 hq11 (by decide) (by decide) (by decide) (by decide)).trans ho11
    have ho4' := (old 0 4 (by omega) (by decide) (by decide) (by decide) (by decide)).trans ((hkp 0 4 (by omega) (by decide)).trans ho4)
    have hpos : 1 ≤ (aj8 L' t).length := by have := (aB0 L' t).length_le; omega
    have hS3' := hS3
    obtain ⟨lcs3, vS3, scs3, hR3⟩ := hS3'
    have ho20' := hR3.row
    rcases hR3.hs with ⟨_, e, _⟩ | ⟨i8, g8, rfl, hi8, hro8, hl8⟩
    ·omega
    have hset : ∀ k : Nat, r8 (cI (R4 R' ++ List.replicate (5 - m) 0)) m [.int .i64 (k : Int)] = cI (R4 (R' ++ [k]) ++ List.replicate (5 - (m + 1)) 0) := fun k => by
     rw [aT1 _ _ _ (by rw [List.length_append, u1, List.length_replicate]; omega), aW8, List.set_append, if_neg (by rw [u1]; omega), u1, hrl, Nat.sub_self]
     obtain ⟨d, hd⟩ : ∃ d, 5 - m = d + 1 := ⟨4 - m, by omega⟩
     rw [hd, show 5 - (m + 1) = d by omega, List.replicate_succ]
     simp [R4]
    by_cases hbig : (cap : Int) < (aj8 L' t).length
    ·have hnone : aw4 N S ss fs cap = none := by
      rw [← hB, show 1002 - i = (1001 - i) + 1 by omega, F6, hx]
      dsimp only
      rw [if_pos]
      have := (aI0 (f := fS N ss fs) x L (show m + 1 ≤ 5 by omega)).length_le
      rw [hsucc] at this
      dsimp only at this
      omega
     rw [hnone]
     simp (disch := omega) only [go_sem, U5, h1, h4, h5, h6, h9, h10, h11, h63, ho11', ho4', ho20', hset, u1, hrl, hbig]
     rfl
    ·simp (disch := omega) only [go_sem, U5, h1, h4, h5, h6, h9, h10, h11, h63, ho11', ho4', ho20', hset, u1, hrl, hbig]
     refine ⟨_, ?_, m + 1, q11, by omega, rfl, by omega, ?_, ?_, hq11', by omega, ?_, ?_, rfl, rfl⟩
     ·omega
     ·rw [hsucc]
      exact hS3.slot (fun j k a1 _ _ _ _ _ => by rw [d6, if_neg a1]) (by omega)
     ·rw [hsucc]
      show (aj8 L' t).length ≤ cap
      omega
     ·rw [if_pos rfl, hsucc]
     ·intro j k hj hk
      rw [if_neg (by omega)]
      exact (old j k (by omega) (by omega) (by omega) (by omega) (by omega)).trans (hkp j k hj hk)
   ·have hme : m = 5 := by omega
    subst hme
    have hB' : bs0 (fS N ss fs) cap (1002 - (i + 1)) (i + 1) (F5 (fS N ss fs) x 5 L).1 (R ++ (F5 (fS N ss fs) x 5 L).2) = aw4 N S ss fs cap := by
     rw [← hB, show 1002 - i = (1002 - (i + 1)) + 1 by omega, F6, hx]
     dsimp only
     rw [if_neg (by omega)]
    have hSub' := hSub
    obtain ⟨lcs', vS', scs', hR'⟩ := hSub'
    have ho20 := hR'.row
    have ho17 := hR'.leads
    have hltL : i < (F5 (fS N ss fs) x 5 L).1.length := (List.getElem?_eq_some_iff.1 hx').1
    have hLi : (F5 (fS N ss fs) x 5 L).1.take (i + 1) = L.take i ++ [x] := by
     rw [List.take_add_one, hx']
     obtain ⟨tl, htl⟩ := hpre
     rw [← htl, List.take_append_of_le_length (by omega)]
     rfl
    generalize hL' : (F5 (fS N ss fs) x 5 L).1 = L' at *
    generalize hR2 : (F5 (fS N ss fs) x 5 L).2 = R' at *
    rcases hR'.hs with ⟨_, e, _⟩ | ⟨i6, g6, rfl, hi6, hro6, hl6⟩
    ·omega
    have hsl : i < scs'.length := by omega
    have hget := av5 (s := 1) hsl
    have hgi : (L'.map B4).getD i [] = B4 x := by simp [List.getD, hx']
    have hH := hR'.ni.2.1 i (by simpa using hltL)
    rw [hgi] at hH
    rcases hH with ⟨e, _, _⟩ | ⟨i7, g7, e7, hi7, hro7, _⟩
    ·exact absurd e (hR'.ne _ (W2 hsl _))
    rw [e7] at hget
    have ho9' := (hkp q9 9 hq9 (by decide)).trans ho9
    have ho4' := (hkp 0 4 (by omega) (by decide)).trans ho4
    have hvN' := hvN.keep (fun j hj => hkp j 93 hj (by decide)) hnx'
    have hvA' := hvA.keep (fun j hj => hkp j 106 hj (by decide)) hnx'
    have hacc := fun rest => bG4 N S F rest (B4 x) (by have := ao3 x; omega)
    have hdec : decide (F ∈ B4 x) = x.getD F.toNat false := by
     rw [Bool.eq_iff_iff, decide_eq_true_iff, ab3]
     exact ⟨fun ⟨s, hs, hb⟩ => by rw [show F.toNat = s by omega]; exact hb, fun hb => ⟨F.toNat, by omega, hb⟩⟩
    obtain ⟨r0, r1, r2, r3, r4, hRe⟩ : ∃ r0 r1 r2 r3 r4, R' = [r0, r1, r2, r3, r4] := by
     match R', hrl with
     | [a, b, c, d, e], _ => exact ⟨a, b, c, d, e, rfl⟩
    have ho11 : o' (q11, 11) = some (.row ⟨54, 1, (q11, 11), false, true, [.int .i64 r0, .int .i64 r1, .int .i64 r2, .int .i64 r3, .int .i64 r4]⟩) := by
     rw [ho11, hRe]
     rfl
    have hRR : cI (R4 (R ++ R')) = cI (R4 R) ++ [.int .i64 r0, .int .i64 r1, .int .i64 r2, .int .i64 r3, .int .i64 r4] := by
     rw [aW8, av2, hRe]
     rfl
    have htkR : (cI (R4 R)).take (i * 5) = cI (R4 R) := j0 (by rw [l5, u1]; exact hRl)
    have htkA : (cB (ac6 F (L.take i))).take i = cB (ac6 F (L.take i)) := j0 (by rw [F4, y6, List.length_take]; omega)
    have hacs : ac6 F (L.take i ++ [x]) = ac6 F (L.take i) ++ [x.getD F.toNat false] := by simp [ac6]
    have htks : (scs'.take L'.length) = scs' := j0 (by omega)
    rcases hvN' with ⟨rfl, e1, e2⟩ | ⟨i8, g8, rfl, hi8, hro8, hl8⟩
    ·rcases hvA' with ⟨rfl, e3, e4⟩ | ⟨i9, g9, rfl, hi9, hro9, hl9⟩
     ·simp (disch := omega) only [go_sem, U5, h1, h4, h5, h6, h9, h10, h11, h63, ho11, ho9', ho4', ho20, ho17, hro6, hro7, hget, hacc, hdec]
      refine ⟨_, ?_, i + 1, L', R ++ R', q9, _, _, hB', rfl, by omega, by omega, hcap, by rw [List.length_append, hRl, hrl]; omega, hrN, hSub.slot (fun j k a1 a2 a3 a4 a5 a6 => by simp [d6, a1, a2, a3, a4, a5, a6]) (by omega), by omega, by rw [if_pos rfl], .inr ⟨nx' + 1, (nx' + 1, 93), by rw [e1], by omega, ?_, ?_⟩, .inr ⟨nx' + 1, (nx' + 1, 106), by rw [e3], by omega, ?_, ?_⟩, rfl, rfl⟩
      ·omega
      ·rw [hRR, e2]
       simp (disch := omega) only [go_sem]
      ·rw [l5, u1, List.length_append, hRl, hrl]; omega
      ·rw [hLi, hacs, aG1, e4]
       simp (disch := omega) only [go_sem]
       rfl
      ·rw [F4, y6, List.length_take]; omega
     ·simp (disch := omega) only [go_sem, U5, h1, h4, h5, h6, h9, h10, h11, h63, ho11, ho9', ho4', ho20, ho17, hro6, hro7, hget, hacc, hdec, u1, y6, List.length_take, hro9, htkA]
      refine ⟨_, ?_, i + 1, L', R ++ R', q9, _, _, hB', rfl, by omega, by omega, hcap, by rw [List.length_append, hRl, hrl]; omega, hrN, hSub.slot (fun j k a1 a2 a3 a4 a5 a6 => by simp [d6, a1, a2, a3, a4, a5, a6]) (by omega), by omega, by rw [if_pos rfl], .inr ⟨nx' + 1, (nx' + 1, 93), by rw [e1], by omega, ?_, ?_⟩, .inr ⟨i9, (nx' + 1, 106), rfl, by omega, ?_, ?_⟩, rfl, rfl⟩
      ·omega
      ·rw [hRR, e2]
       simp (disch := omega) only [go_sem]
      ·rw [l5, u1, List.length_append, hRl, hrl]; omega
      ·rw [hLi, hacs, aG1]
       simp (disch := omega) only [go_sem]
       rfl
      ·rw [F4, y6, List.length_take]; omega
    ·rcases hvA' with ⟨rfl, e3, e4⟩ | ⟨i9, g9, rfl, hi9, hro9, hl9⟩
     ·simp (disch := omega) only [go_sem, U5, h1, h4, h5, h6, h9, h10, h11, h63, ho11, ho9', ho4', ho20, ho17, hro6, hro7, hget, hacc, hdec, u1, y6, List.length_take, hro8, htkR]
      refine ⟨_, ?_, i + 1, L', R ++ R', q9, _, _, hB', rfl, by omega, by omega, hcap, by rw [List.length_append, hRl, hrl]; omega, hrN, hSub.slot (fun j k a1 a2 a3 a4 a5 a6 => by simp [d6, a1, a2, a3, a4, a5, a6]) (by omega), by omega, by rw [if_pos rfl], .inr ⟨i8, (nx' + 1, 93), rfl, by omega, ?_, ?_⟩, .inr ⟨nx' + 1, (nx' + 1, 106), by rw [e3], by omega, ?_, ?_⟩, rfl, rfl⟩
      ·omega
      ·rw [hRR]
       simp (disch := omega) only [go_sem]
      ·rw [l5, u1, List.length_append, hRl, hrl]; omega
      ·rw [hLi, hacs, aG1, e4]
       simp (disch := omega) only [go_sem]
       rfl
      ·rw [F4, y6, List.length_take]; omega
     ·simp (disch := omega) only [go_sem, U5, h1, h4, h5, h6, h9, h10, h11, h63, ho11, ho9', ho4', ho20, ho17, hro6, hro7, hget, hacc, hdec, u1, y6, List.length_take, hro8, htkR, hro9, htkA]
      refine ⟨_, ?_, i + 1, L', R ++ R', q9, _, _, hB', rfl, by omega, by omega, hcap, by rw [List.length_append, hRl, hrl]; omega, hrN, hSub.slot (fun j k a1 a2 a3 a4 a5 a6 => by simp [d6, a1, a2, a3, a4, a5, a6]) (by omega), by omega, by rw [if_pos rfl], .inr ⟨i8, (nx' + 1, 93), rfl, by omega, ?_, ?_⟩, .inr ⟨i9, (nx' + 1, 106), rfl, by omega, ?_, ?_⟩, rfl, rfl⟩
      ·omega
      ·rw [hRR]
       simp (disch := omega) only [go_sem]
      ·rw [l5, u1, List.length_append, hRl, hrl]; omega
      ·rw [hLi, hacs, aG1]
       simp (disch := omega) only [go_sem]
       rfl
      ·rw [F4, y6, List.length_take]; omega
  ·have hie : i = L.length := by omega
   subst hie
   rcases hLs with ⟨rfl, e, _⟩ | ⟨i5, g5, rfl, hi5, hro5, hl5⟩
   ·omega
   rcases hvN with ⟨_, e, _⟩ | ⟨i8, g8, rfl, hi8, hro8, hl8⟩
   ·omega
   rcases hvA with ⟨_, e, _⟩ | ⟨i9, g9, rfl, hi9, hro9, hl9⟩
   ·omega
   rw [List.take_length] at hro9 hl9
   have hRn : (R4 R).length = L.length * 5 := by rw [u1]; exact hRl
   have htkR : (cI (R4 R)).take (L.length * 5) = cI (R4 R) := j0 (by rw [l5]; exact hRn)
   have hAn : (ac6 F L).length = L.length := y6 F L
   have htkA : (cB (ac6 F L)).take L.length = cB (ac6 F L) := j0 (by rw [F4]; exact hAn)
   have hz5 : (rep [AV.int .i64 0, .int .i64 0, .int .i64 0, .int .i64 0, .int .i64 0] L.length).length = L.length * 5 := by
    rw [bz6]; simp
   have hzA : (cB (List.replicate L.length false)).drop L.length = [] := by simp [cB]
   have hz6 : (rep [AV.int .i64 0, .int .i64 0, .int .i64 0, .int .i64 0, .int .i64 0] L.length).drop (L.length * 5) = [] := List.drop_of_length_le (by omega)
   have hfin : aw4 N S ss fs cap = some (L, R) := by
    rw [← hB, show 1002 - L.length = (1001 - L.length) + 1 by omega, F6, List.getElem?_eq_none (Nat.le_refl _)]
   rw [hfin]
   simp (disch := omega) only [go_sem, U5, h1, h4, h5, h6, h9, h10, ho20, ho9, ho4, hro8, hro9, hRn, htkR, hAn, htkA, hz5, hzA, hz6, aT2]
   show _ = AV.tup [.agg [.sl L.length (cI (R4 R)), .sl (ac6 F L).length (cB (ac6 F L))], .int .i64 0]
   rw [y6]
theorem cr8 (N : Nat) (S F : Int) (ss fs) (hN : N ≤ 1000) (hw : Wf N S F ss fs) (hss : ss.length ≤ 1000) (cap : Nat) (hc1 : 1 ≤ cap) (hc2 : cap ≤ 1000) : Ok Tryd.prog 47 [ao2 N S F ss fs, .int .i64 cap] (cf8 F (aw4 N S ss fs cap)) := by
 refine m5 (E := EX md0 bW7) (cr := be1) bW8 bG1 mixed (k := 1003) Tryd.func47 (bW9 _) rfl (T1 (cr7 N S F ss fs hN hw hss cap hc1 hc2) ?_)
 rintro u a o nx ⟨rfl, h⟩
 refine ⟨.inr rfl, ?_⟩
 simp only [Tryd.f47, ab1, ah5, ah6, ao1]
 cases hl : N4 Tryd.prog 27 (a 4) ⟨o, nx⟩ with
 | none =>
  rw [hl] at h
  cases hm : aw4 N S ss fs cap with
  | none =>
   rw [hm] at h
   change AV.tup [AV.und, view o 1011 (a 5)] = _ at h
   simp [cf8, cr6] at h
  | some p =>
   rw [hm] at h
   change AV.tup [AV.und, view o 1011 (a 5)] = _ at h
   simp [cf8, ar3] at h
 | some v =>
  rw [hl] at h
  rw [show N4 (EX md0 bW7).P 27 (a 4) ⟨o, nx⟩ = some v from hl]
  exact h
set_option maxRecDepth 20000
theorem aj9 {N : Nat} {S : Int} {ss fs} {cap : Nat} {L : List (List Bool)} {R : List Nat} (h : aw4 N S ss fs cap = some (L, R)) : MidS (fS N ss fs) (t0S N S fs) L.length L R ∧ ∀ b ∈ L, b.length = N :=
 ⟨aW1 (MidS.start _) h, aW3 (fun b => b.length = N) (fun x m _ => aq1 N ss fs x m) (fun y hy => by rw [List.mem_singleton.1 hy]; exact af7 N S fs) h⟩
theorem aW9 {N : Nat} {S : Int} {ss fs} {cap : Nat} {L : List (List Bool)} {R : List Nat} (h : aw4 N S ss fs cap = some (L, R)) : 1 ≤ L.length := by
 have := (aj9 h).1.head
 exact (List.getElem?_eq_some_iff.1 this).1
theorem bs9 {N : Nat} {S F : Int} {ss fs} {cap : Nat} {L : List (List Bool)} {R : List Nat} (h : aw4 N S ss fs cap = some (L, R)) (hL : L.length ≤ 1000) : WfD L.length (R4 R) (ac6 F L) := by
 have hm := (aj9 h).1
 have hp := aW9 h
 have hR := hm.len
 refine ⟨⟨hp, by omega⟩, by rw [u1]; omega, y6 F L, fun y hy => ?_⟩
 obtain ⟨q0, hq0, rfl⟩ := List.mem_map.1 hy
 obtain ⟨k, hk, hke⟩ := List.getElem_of_mem hq0
 obtain ⟨x, q, h1, h2, h3⟩ := hm.leads (k / 5) (k % 5) (by omega) (by omega)
 rw [show 5 * (k / 5) + k % 5 = k by omega] at h2
 have hq := (List.getElem?_eq_some_iff.1 h3).1
 rw [List.getElem?_eq_getElem hk, hke] at h2
 injection h2 with h2
 subst h2
 show 0 ≤ (q0 : Int) ∧ (q0 : Int) < _
 omega
def bG5 (args : List AV) (r : AV) : Prop := ∃ (N : Nat) (S F : Int) (ss : List St3) (fs : List (Int × Int)) (cap : Nat), N ≤ 1000 ∧ Wf N S F ss fs ∧ ss.length ≤ 1000 ∧ 1 ≤ cap ∧ cap ≤ 1000 ∧ args = [ao2 N S F ss fs, .int .i64 cap] ∧ r = cf8 F (aw4 N S ss fs cap)
theorem bG6 : Q5 bG5 := by
 rintro args r r' ⟨N, S, F, ss, fs, cap, _, _, _, _, _, rfl, rfl⟩ ⟨N', S', F', ss', fs', cap', _, _, _, _, _, h, rfl⟩
 simp only [List.cons.injEq, AV.int.injEq, true_and, and_true] at h
 obtain ⟨h0, h1⟩ := h
 obtain ⟨e1, e2, e3, e4, e5⟩ := aT5 h0
 have e1 : N = N' := by omega
 have e6 : cap = cap' := by omega
 rw [e1, e2, e3, e4, e5, e6]
theorem bt0 (args r) (h : bG5 args r) : Ok Tryd.prog 47 args r := by obtain ⟨N, S, F, ss, fs, cap, h1, h2, h3, h4, h5, rfl, rfl⟩ := h; exact cr8 N S F ss fs h1 h2 h3 cap h4 h5
theorem bG7 {R : List Nat} {k q : Nat} (h : R[k]? = some q) : (R4 R).getD k 0 = (q : Int) := by
 unfold R4
 simp only [List.getD, List.getElem?_map, h]
 rfl
theorem bt1 {N : Nat} {S : Int} {ss fs} {cap : Nat} {L : List (List Bool)} {R : List Nat} (h : aw4 N S ss fs cap = some (L, R)) : ∀ (w : List Int) (s : Nat) (b : List Bool), (∀ x ∈ w, 0 ≤ x ∧ x < 5) → L[s]? = some b → ∃ k : Nat, goD (R4 R) (s : Int) w = (k : Int) ∧ L[k]? = some (w.foldl (az2 N (t7 N fs) ss) b)
 | [], s, b, _, hs => ⟨s, rfl, hs⟩
 | m :: w, s, b, hw, hs => by
  have hm := hw m (List.mem_cons_self ..)
  obtain ⟨j, rfl⟩ := Int.eq_ofNat_of_zero_le hm.1
  have hlt := (List.getElem?_eq_some_iff.1 hs).1
  obtain ⟨x, q, h1, h2, h3⟩ := (aj9 h).1.leads s j hlt (by omega)
  rw [hs] at h1
  injection h1 with h1
  subst h1
  obtain ⟨k, e1, e2⟩ := bt1 h w q _ (fun x hx => hw x (List.mem_cons_of_mem _ hx)) h3
  refine ⟨k, ?_, e2⟩
  rw [goD, if_neg (by omega), ← e1]
  have : ((s : Int)).toNat * 5 + ((j : Int)).toNat = 5 * s + j := by omega
  rw [this, bG7 h2]
theorem cr9 {N : Nat} {S F : Int} {ss fs} {cap : Nat} {L : List (List Bool)} {R : List Nat} (h : aw4 N S ss fs cap = some (L, R)) (w : List Int) (hw : ∀ x ∈ w, 0 ≤ x ∧ x < 5) : ∃ k : Nat, aG6 L.length (R4 R) 0 w = (k : Int) ∧ k < L.length ∧ (ac6 F L).getD k false = cn7 N S F ss fs w := by
 have hp := aW9 h
 obtain ⟨k, h1, h2⟩ := bt1 h w 0 _ hw (aj9 h).1.head
 refine ⟨k, ?_, (List.getElem?_eq_some_iff.1 h2).1, ?_⟩
 ·unfold aG6
  rw [if_pos (by omega)]
  exact h1
 ·unfold ac6 cn7 bg1
  simp only [List.getD, List.getElem?_map, h2]
  rfl
end Go.Proofs.YtpmjpogcaglphaaDoor.A
