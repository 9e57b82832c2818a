/- Machines of one way out of machines of many: a number's digits, a set's name. -/
import Derived.Test.YtpmjpogcaglphaaDoorMLMLaws20
import Derived.Test.YtpmjpogcaglphaaDoorMLMLaws19
set_option linter.unusedVariables false
set_option linter.unusedSimpArgs false
set_option linter.unnecessarySimpa false
namespace Go.Proofs.YtpmjpogcaglphaaDoor.A
open Go
set_option maxRecDepth 20000
theorem aB2 {n : Nat} (h : n < 10) : Lib.decDigits n = [UInt8.ofNat (48 + n)] := by rw [Lib.decDigits, dif_pos h]
theorem aW5 {n : Nat} (h : ¬ n < 10) : Lib.decDigits n = Lib.decDigits (n / 10) ++ [UInt8.ofNat (48 + n % 10)] := by rw [Lib.decDigits, dif_neg h]
theorem bs5 {n : Nat} (h : n < 1000) : Lib.decDigits n = Y9 n := by
 unfold Y9
 by_cases h1 : n < 10
 ·rw [if_pos h1, aB2 h1]
 ·rw [if_neg h1, aW5 h1]
  by_cases h2 : n < 100
  ·rw [if_pos h2, aB2 (by omega)]
   rfl
  ·rw [if_neg h2, aW5 (n := n / 10) (by omega), aB2 (by omega), Nat.div_div_eq_div_mul]
   rfl
noncomputable def XIt : FuncId → List AV → Option AV := p4 [(99, E3 bF6)]
theorem cq5 : m7 Tryd.prog XIt := k0 (p9 _) (n5 bF8)
theorem cq6 {x : Int} (h : 0 ≤ x ∧ x < 1000) : XIt 99 [.int .i64 x] = some (.str (Y9 x.toNat)) := by
 obtain ⟨n, rfl⟩ := Int.eq_ofNat_of_zero_le h.1
 have e : Lib.itoa (n : Int) = Y9 n := by
  unfold Lib.itoa
  rw [if_neg (by omega), show ((n : Int)).toNat = n by omega]
  exact bs5 (by omega)
 rw [show ((n : Int)).toNat = n by omega, ← e]
 exact m8 (R := bF6) bF7 ⟨(n : Int), by omega, by omega, rfl, rfl⟩
theorem aW6 (n : Nat) : (Y9 n).length ≤ 3 := by
 unfold Y9
 split
 ·simp
 ·split <;> simp
theorem bF9 (l : List Int) : (M9 l).length ≤ 4 * l.length := by
 induction l with
 | nil => simp [M9]
 | cons x l ih =>
  have h1 := aW6 x.toNat
  have : M9 (x :: l) = Y9 x.toNat ++ [32] ++ M9 l := rfl
  rw [this]
  simp only [List.length_append, List.length_cons, List.length_nil]
  omega
theorem cq7 (X) : f7 (EX md0 X) (fun _ => none) 1 Tryd.f95 = true := by kernel_rfl
theorem bV8 (l : List Int) (hl : l.length ≤ 1000) (hin : ∀ x ∈ l, 0 ≤ x ∧ x < 1000) : Ok Tryd.prog 95 [slI l] (.str (M9 l)) := by
 refine m5 (E := EX md0 XIt) (cr := noR) cq5 (o8 _) mixed (k := l.length + 1) Tryd.func95 (cq7 _) rfl ?_
 simp only [Tryd.f95, Option.getD_some]
 simp (disch := omega) only [go_sem]
 refine u2 (fun m a o nx => ∃ i, i ≤ l.length ∧ m = l.length - i ∧ a 3 = .str (M9 (l.take i)) ∧ a 6 = slI l ∧ a 7 = .int .i64 l.length ∧ a 8 = .int .i64 i) l.length (by omega) ⟨0, by omega, by omega, by simp (disch := omega) only [go_sem]; rfl, by simp (disch := omega) only [go_sem], by simp (disch := omega) only [go_sem], by simp (disch := omega) only [go_sem]⟩ ?_
 rintro m a o nx ⟨i, hi, rfl, h3, h6, h7, h8⟩
 by_cases hlt : i < l.length
 ·have hat := av3 (s := 1) hlt
  have hmem := hin _ (W2 hlt 0)
  have htk := t8 hlt 0
  have hle := bF9 (l.take i)
  rw [List.length_take] at hle
  generalize l.getD i 0 = x at hat hmem htk
  have hit := cq6 hmem
  have h3le := aW6 x.toNat
  simp (disch := omega) only [go_sem, h3, h6, h7, h8, hat, hit]
  exact ⟨_, by omega, i + 1, by omega, rfl, by rw [htk, bd9, List.append_assoc], rfl⟩
 ·have e : i = l.length := by omega
  subst e
  rw [List.take_length] at h3
  simp (disch := omega) only [go_sem, h3, h6, h7, h8]
def RNm (args : List AV) (r : AV) : Prop := ∃ l : List Int, l.length ≤ 1000 ∧ (∀ x ∈ l, 0 ≤ x ∧ x < 1000) ∧ args = [slI l] ∧ r = .str (M9 l)
theorem cq8 : Q5 RNm := by
 rintro args r r' ⟨l, _, _, rfl, rfl⟩ ⟨l', _, _, h, rfl⟩
 simp only [List.cons.injEq, and_true] at h
 rw [az1 h]
theorem cq9 (args r) (h : RNm args r) : Ok Tryd.prog 95 args r := by
 obtain ⟨l, h1, h2, rfl, rfl⟩ := h
 exact bV8 l h1 h2
set_option maxRecDepth 20000
abbrev bG0 : AV := .ptr (1, 20) (1, 20) 0
structure SubRow (o : Ob) (nx : Nat) (N : Nat) (S F : Int) (ss : List St3) (fs : List (Int × Int)) (lr : List (List St3)) (L : List (List Bool)) (lcs : List AV) (vS : AV) (scs : List AV) : Prop where
 two : 2 ≤ nx
 row : o (1, 20) = some (.row ⟨143, 1, (1, 20), false, true, [.int .i64 N, .int .i64 S, .int .i64 F, .sl ss.length (cS ss), .sl fs.length (cP fs), .ref (1, 17) (1, 17) 0 N, .mp (1, 18), vS]⟩)
 leads : o (1, 17) = some (.row ⟨79, 1, (1, 17), false, true, lcs⟩)
 rows : NS 44 o nx lcs lr
 ll : lr.length = N
 known : o (1, 18) = some (.map (aw3 L))
 hs : HS 22 1 45 o nx vS L.length scs
 ni : NI 34 o nx scs (L.map B4)
 ne : ∀ x ∈ scs, x ≠ .nil
def SubAt (o : Ob) (nx : Nat) (N : Nat) (S F : Int) (ss : List St3) (fs : List (Int × Int)) (lr : List (List St3)) (L : List (List Bool)) : Prop := ∃ lcs vS scs, SubRow o nx N S F ss fs lr L lcs vS scs
def cr0 (nx : Nat) (o o' : Ob) : Prop := ∀ i k, i < nx → k ≠ 20 → k ≠ 18 → k ≠ 45 → k ≠ 40 → o' (i, k) = o (i, k)
def BKeep40 (nx : Nat) (o o' : Ob) : Prop := ∀ i k, i < nx → k ≠ 40 → o' (i, k) = o (i, k)
theorem SubAt.keep {o nx N S F ss fs lr L} (h : SubAt o nx N S F ss fs lr L) {o' : Ob} {nx' : Nat} (hk : BKeep40 nx o o') (hn : nx ≤ nx') : SubAt o' nx' N S F ss fs lr L := by
 obtain ⟨lcs, vS, scs, h⟩ := h
 have h2 := h.two
 exact ⟨lcs, vS, scs, ⟨by omega, by rw [hk _ _ (by omega) (by decide)]; exact h.row, by rw [hk _ _ (by omega) (by decide)]; exact h.leads, h.rows.keep (fun i hi => hk i _ hi (by decide)) hn, h.ll, by rw [hk _ _ (by omega) (by decide)]; exact h.known, h.hs.keep (fun i hi => hk i _ hi (by decide)) hn, h.ni.keep (fun i hi => hk i _ hi (by decide)) hn, h.ne⟩⟩
noncomputable def XNm : FuncId → List AV → Option AV := p4 [(95, E3 RNm)]
theorem cr1 : m7 Tryd.prog XNm := k0 (p9 _) (n5 cq9)
theorem cr2 {l : List Int} (h1 : l.length ≤ 1000) (h2 : ∀ x ∈ l, 0 ≤ x ∧ x < 1000) : XNm 95 [slI l] = some (.str (M9 l)) := m8 (R := RNm) cq8 ⟨l, h1, h2, rfl, rfl⟩
theorem bV9 (X) : f7 (EX md0 X) (fun _ => none) 2 Tryd.f78 = true := by kernel_rfl
theorem cr3 {cr : q8} {k : Nat} {o : Ob} {nx : Nat} {N : Nat} {S F : Int} {ss fs lr} {L : List (List Bool)} (hN : N ≤ 1000) (h : SubAt o nx N S F ss fs lr L) (hL : ∀ b ∈ L, b.length = N) (hLn : L.length ≤ 100000) {t : List Bool} (ht : t.length = N) :
  WP (EX md0 XNm) cr k (fun _ => none) (Tryd.f78.body.getD .skip) (y0 [bG0, slI (B4 t)]) o nx (fun u a o' nx' => u = .ret ∧ a 4 = .int .i64 (L.idxOf t : Int) ∧ nx ≤ nx' ∧ SubAt o' nx' N S F ss fs lr (aj8 L t) ∧ cr0 nx o o') := by
 obtain ⟨lcs, vS, scs, h⟩ := h
 have h2 := h.two
 have hrow := h.row
 have hkn := h.known
 have hld := h.leads
 have hidx := ao3 t
 have hnm := cr2 (l := B4 t) (by omega) (fun x hx => by have := af0 hx; omega)
 have hf := Z0 (by omega) ht (n := 0) hL
 rw [Nat.zero_add] at hf
 unfold nm at hf
 have hz : (cI (List.replicate (B4 t).length 0)).drop (B4 t).length = [] := by simp [cI]
 simp only [Tryd.f78, Option.getD_some]
 by_cases hm : t ∈ L
 ·rw [if_pos hm] at hf
  simp (disch := omega) only [go_sem, hrow, hkn, hnm, hf]
  rw [bV5 L t hm]
  exact ⟨by omega, SubAt.keep ⟨lcs, vS, scs, h⟩ (fun _ _ _ _ => rfl) (by omega), fun _ _ _ _ _ _ _ => rfl⟩
 ·rw [if_neg hm] at hf
  have hput := be0 (by omega) ht hL hm
  unfold nm at hput
  have hup : ∀ (o : Ob) (nx : Nat), bA4 (1, 18) (.str (M9 (B4 t))) (.int .i64 (L.length : Int)) o nx (aw3 L) = some ⟨upd o (1, 18) (.map (aw3 (aj8 L t))), nx⟩ := fun o nx => by rw [aM7 hf, hput]
  have hml : (aj8 L t).length = L.length + 1 := by rw [aA9 L t hm]; simp
  have hmi : (aj8 L t).map B4 = L.map B4 ++ [B4 t] := by rw [aA9 L t hm]; simp
  rw [List.idxOf_eq_length hm]
  rcases h.hs with ⟨rfl, e2, rfl⟩ | ⟨i1, g1, rfl, hi1, hrow1, hlen1⟩
  ·have e4 : (L.length : Int) = 0 := by omega
   rw [e4] at hup ⊢
   simp (disch := omega) only [go_sem, hrow, hkn, hnm, hf, hup, hz, an9]
   refine ⟨by first | (congr 1; done) | (congr 1; omega), by omega, ⟨lcs, _, [] ++ [.ref (nx + 1 + 1 + 1 + 1 + 1, 34) (nx + 1 + 1 + 1 + 1 + 1, 34) 0 (B4 t).length], ⟨by omega, f8 _ _ _, by simp (disch := omega) only [go_sem, hld], h.rows.keep (fun i hi => by simp (disch := omega) only [go_sem]) (by omega), h.ll, by simp (disch := omega) only [go_sem], ?_, ?_, ?_⟩⟩, ?_⟩
   ·rw [hml]
    exact .inr ⟨nx + 1 + 1 + 1 + 1 + 1 + 1 + 1, (nx + 1 + 1 + 1 + 1 + 1 + 1 + 1, 45), by rw [e2], by omega, by simp (disch := omega) only [go_sem], by simp [e2]⟩
   ·rw [hmi]
    exact NI.snoc h.ni rfl (by omega) (by omega) (by omega) (fun i hi => by simp (disch := omega) only [go_sem]) (by simp (disch := omega) only [go_sem])
   ·intro x hx
    rcases List.mem_append.1 hx with hx | hx
    ·exact h.ne x hx
    ·rw [List.mem_singleton.1 hx]
     exact fun hc => by cases hc
   ·intro i k hi a1 a2 a3 a4
    have e1 : ¬ i = nx + 1 + 1 + 1 + 1 + 1 := by omega
    have e2 : ¬ i = nx + 1 + 1 + 1 + 1 + 1 + 1 + 1 := by omega
    simp [d6, a1, a2, a3, a4, e1, e2]
  ·simp (disch := omega) only [go_sem, hrow, hkn, hnm, hf, hup, hz, hrow1, an9]
   have htk : scs.take L.length = scs := j0 (by omega)
   refine ⟨by first | (congr 1; done) | (congr 1; omega), by omega, ⟨lcs, _, scs ++ [.ref (nx + 1 + 1 + 1 + 1 + 1, 34) (nx + 1 + 1 + 1 + 1 + 1, 34) 0 (B4 t).length], ⟨by omega, f8 _ _ _, by simp (disch := omega) only [go_sem, hld], h.rows.keep (fun i hi => by simp (disch := omega) only [go_sem]) (by omega), h.ll, by simp (disch := omega) only [go_sem], ?_, ?_, ?_⟩⟩, ?_⟩
   ·rw [hml]
    exact .inr ⟨i1, (nx + 1 + 1 + 1 + 1 + 1 + 1 + 1, 45), rfl, by omega, by simp (disch := omega) only [go_sem]; rw [htk], by simp [hlen1]⟩
   ·rw [hmi]
    exact NI.snoc h.ni rfl (by omega) (by omega) (by omega) (fun i hi => by simp (disch := omega) only [go_sem]) (by simp (disch := omega) only [go_sem])
   ·intro x hx
    rcases List.mem_append.1 hx with hx | hx
    ·exact h.ne x hx
    ·rw [List.mem_singleton.1 hx]
     exact fun hc => by cases hc
   ·intro i k hi a1 a2 a3 a4
    have e1 : ¬ i = nx + 1 + 1 + 1 + 1 + 1 := by omega
    have e2 : ¬ i = nx + 1 + 1 + 1 + 1 + 1 + 1 + 1 := by omega
    simp [d6, a1, a2, a3, a4, e1, e2]
set_option maxRecDepth 20000
theorem BKeep40.refl (n o) : BKeep40 n o o := fun _ _ _ _ => rfl
theorem BKeep40.upd {n : Nat} {o0 o : Ob} {j d : Nat} {x : AObj} (h : BKeep40 n o0 o) (hj : n ≤ j ∨ d = 40) : BKeep40 n o0 (A.upd o (j, d) x) := fun i k hi hk => by
 have e : ¬ (i, k) = (j, d) := fun hc => by
  injection hc with h1 h2
  omega
 rw [A.upd, if_neg e]
 exact h i k hi hk
theorem BKeep40.seal {n : Nat} {o0 o : Ob} {ts : List Tag} (h : BKeep40 n o0 o) (ht : ∀ t ∈ ts, t.2 = 40) : BKeep40 n o0 (C9 ts o) := fun i k hi hk => by
 rw [P0 (fun hm => hk (ht _ hm))]
 exact h i k hi hk
def cf7 (args : List AV) (r : AV) : Prop := ∃ (N : Nat) (S F : Int) (ss : List (Int × Int × Int)) (fs : List (Int × Int)) (l : List Int), Wf N S F ss fs ∧ l.length ≤ 9000000 ∧ args = [ao2 N S F ss fs, slI l] ∧ r = slI (B4 (B8 N (t7 N fs) l))
theorem bs6 : Q5 cf7 := by
 rintro args r r' ⟨N, S, F, ss, fs, w, _, _, rfl, rfl⟩ ⟨N', S', F', ss', fs', w', _, _, h, rfl⟩
 simp only [List.cons.injEq, and_true] at h
 obtain ⟨h1, h2, h3, h4, h5⟩ := aT5 h.1
 have h1 : N = N' := by omega
 rw [h1, h5, az1 h.2]
theorem bs7 (args r) (h : cf7 args r) : Ok Tryd.prog 79 args r := by obtain ⟨N, S, F, ss, fs, w, h1, h2, rfl, rfl⟩ := h; exact aN1 N h1.n S F ss fs h1.lf (fun p hp => (h1.free p hp).1) w h2
noncomputable def bW0 : FuncId → List AV → Option AV := p4 [(79, E3 cf7)]
theorem bW1 : m7 Tryd.prog bW0 := k0 (p9 _) (n5 bs7)
theorem bW2 {N : Nat} {S F : Int} {ss fs} (hw : Wf N S F ss fs) (l : List Int) (h : l.length ≤ 9000000) : bW0 79 [ao2 N S F ss fs, slI l] = some (slI (B4 (B8 N (t7 N fs) l))) := m8 (R := cf7) bs6 ⟨_, _, _, _, _, _, hw, h, rfl, rfl⟩
theorem cr4 (X) : f7 (EX md0 X) (fun _ => none) 3 Tryd.f80 = true := by kernel_rfl
theorem cQ2 {cr : q8} {k : Nat} {o0 : Ob} {nx0 : Nat} {N : Nat} {S F : Int} {ss fs} {L : List (List Bool)} (hN : N ≤ 1000) (hw : Wf N S F ss fs) (hss : ss.length ≤ 1000) (h : SubAt o0 nx0 N S F ss fs (t6 N ss) L) {b : List Bool} (hb : b.length = N) {q : Nat} {g : Tag} (hq : q < nx0) (hrow : o0 (q, 34) = some (.row ⟨3, 1, g, false, true, cI (B4 b)⟩)) {m : Int} (hm : 0 ≤ m ∧ m < 5) (hk : 1000 < k) :
  WP (EX md0 bW0) cr k (fun _ => none) (Tryd.f80.body.getD .skip) (y0 [bG0, .ref (q, 34) g 0 (B4 b).length, .int .i64 m]) o0 nx0 (fun u a o' nx' => u = .ret ∧ a 6 = slI (B4 (az2 N (t7 N fs) ss b m)) ∧ nx0 ≤ nx' ∧ BKeep40 nx0 o0 o') := by
 obtain ⟨lcs, vS, scs, h⟩ := h
 have h2 := h.two
 have hcl : lcs.length = N := by rw [h.rows.1, h.ll]
 have hidx := ao3 b
 have hbyle : ∀ l : List Int, (byL (t6 N ss) m l).length ≤ l.length * 1000 := fun l => cq2 (fun j => by have := af6 N ss j; omega) m l
 simp only [Tryd.f80, Option.getD_some]
 simp (disch := omega) only [go_sem]
 refine u2 (fun mm a o nx => ∃ i v, i ≤ (B4 b).length ∧ mm = (B4 b).length - i ∧ nx0 ≤ nx ∧ HS 3 1 40 o nx v (byL (t6 N ss) m ((B4 b).take i)).length (cI (byL (t6 N ss) m ((B4 b).take i))) ∧ BKeep40 nx0 o0 o ∧ a 0 = bG0 ∧ a 2 = .int .i64 m ∧ a 7 = v ∧ a 12 = .ref (q, 34) g 0 (B4 b).length ∧ a 13 = .int .i64 (B4 b).length ∧ a 14 = .int .i64 i) (B4 b).length (by omega)
  ⟨0, .nil, by omega, by omega, by omega, by rw [List.take_zero]; exact HS.nil, BKeep40.refl _ _, by simp (disch := omega) only [go_sem], by simp (disch := omega) only [go_sem], by simp (disch := omega) only [go_sem], by simp (disch := omega) only [go_sem], by simp (disch := omega) only [go_sem], by simp (disch := omega) only [go_sem]⟩ ?_
 rintro mm a o nx ⟨i, v, hi, rfl, hnx, hHS, hkp, h0, hm2, h7, h12, h13, h14⟩
 have ho34 : o (q, 34) = _ := (hkp q 34 hq (by decide)).trans hrow
 have ho20 : o (1, 20) = _ := (hkp 1 20 (by omega) (by decide)).trans h.row
 have ho17 : o (1, 17) = _ := (hkp 1 17 (by omega) (by decide)).trans h.leads
 by_cases hlt : i < (B4 b).length
 ·have hat := av3 (s := 1) hlt
  have hmem := W2 hlt 0
  have htk := t8 hlt 0
  have hle := hbyle ((B4 b).take i)
  rw [List.length_take] at hle
  generalize (B4 b).getD i 0 = x at hat hmem htk
  have hx := af0 hmem
  obtain ⟨s, rfl⟩ := Int.eq_ofNat_of_zero_le hx.1
  have hsN : s < lcs.length := by omega
  have hget := av5 (s := 1) hsN
  have hH := (h.rows.2.1 s (by rw [h.ll]; omega)).keep (o' := o) (nx' := nx) (fun i hi => hkp i 44 hi (by decide)) hnx
  have hrl := af6 N ss s
  have hsn : byL (t6 N ss) m ((B4 b).take (i + 1)) = byL (t6 N ss) m ((B4 b).take i) ++ ai9 m ((t6 N ss).getD s []) := by
   rw [htk, bF5, show ((s : Int)).toNat = s by omega]
  generalize hlr : (t6 N ss).getD s [] = row at hH hrl hsn
  generalize hvv : lcs.getD s .nil = w at hH hget
  have hwl : ∀ o : Ob, N6 Tryd.prog o 79 w = some (.int .i64 (row.length : Int)) := by
   intro o
   rcases hH with ⟨rfl, e, _⟩ | ⟨i1, g1, rfl, _, _, _⟩
   ·rw [e]; simp (disch := omega) only [go_sem]
   ·simp (disch := omega) only [go_sem]
  have hrow1 : 0 < row.length → ∃ i1 g1, w = .ref (i1, 44) g1 0 row.length ∧ i1 < nx ∧ o (i1, 44) = some (.row ⟨145, 3, g1, false, true, cS row⟩) := by
   intro h
   rcases hH with ⟨_, e, _⟩ | ⟨i1, g1, e, hi1, e2, _⟩
   ·omega
   ·exact ⟨i1, g1, e, hi1, e2⟩
  clear hH hvv hlr htk hmem
  generalize hprev : byL (t6 N ss) m ((B4 b).take i) = prev at hHS hsn hle
  simp (disch := omega) only [go_sem, h0, hm2, h7, h12, h13, h14, ho34, ho20, ho17, hat, hget, hwl]
  refine u2 (fun mm a o' nx' => ∃ j v, j ≤ row.length ∧ mm = row.length - j ∧ nx ≤ nx' ∧ HS 3 1 40 o' nx' v (prev ++ ai9 m (row.take j)).length (cI (prev ++ ai9 m (row.take j))) ∧ BKeep40 nx o o' ∧ a 0 = bG0 ∧ a 2 = .int .i64 m ∧ a 7 = v ∧ a 12 = .ref (q, 34) g 0 (B4 b).length ∧ a 13 = .int .i64 (B4 b).length ∧ a 14 = .int .i64 i ∧ a 24 = w ∧ a 25 = .int .i64 row.length ∧ a 26 = .int .i64 j) row.length (by omega)
   ⟨0, v, by omega, by omega, by omega, by rw [List.take_zero]; simpa [ai9] using hHS.keep (fun _ _ => rfl) (by omega), BKeep40.refl _ _, by simp (disch := omega) only [go_sem, h0], by simp (disch := omega) only [go_sem, hm2], by simp (disch := omega) only [go_sem, h7], by simp (disch := omega) only [go_sem, h12], by simp (disch := omega) only [go_sem, h13], by simp (disch := omega) only [go_sem, h14], by simp (disch := omega) only [go_sem], by simp (disch := omega) only [go_sem], by simp (disch := omega) only [go_sem]⟩ ?_
  clear hHS h0 hm2 h7 h12 h13 h14 ho34 ho20 ho17
  rintro mm a o' nx' ⟨j, v, hj, rfl, hnx', hHS, hkp', h0, hm2, h7, h12, h13, h14, h24, h25, h26⟩
  have hok := hHS.ok
  by_cases hjl : j < row.length
  ·obtain ⟨i1, g1, rfl, hi1, hr1⟩ := hrow1 (by omega)
   have ho44 : o' (i1, 44) = _ := (hkp' i1 44 hi1 (by decide)).trans hr1
   have hat3 := cm1 hjl
   have htk3 := t8 hjl (0, 0, 0)
   have hle3 := bs3 m (row.take j)
   rw [List.length_take] at hle3
   generalize row.getD j (0, 0, 0) = p at hat3 htk3
   obtain ⟨f, t, set⟩ := p
   simp only at hat3
   have hsn3 : ai9 m (row.take (j + 1)) = ai9 m (row.take j) ++ (if Q8 set m then [t] else []) := by rw [htk3, bs2]
   by_cases hmd : cJ3 .i64 (set.fdiv (2 ^ min m.toNat 64)) 1 = 1
   ·have hmd' : Q8 set m = true := decide_eq_true hmd
    rw [hmd', if_pos rfl] at hsn3
    rcases hHS with ⟨rfl, e2, e3⟩ | ⟨i2, g2, rfl, hi2, hrow2, hlen2⟩
    ·have ep : prev ++ ai9 m (row.take j) = [] := List.length_eq_zero_iff.1 e2
     have elen : prev.length + (ai9 m (row.take (j + 1))).length = 1 := by rw [hsn3, List.length_append, ← Nat.add_assoc, ← List.length_append, ep]; rfl
     have ecs : cI (prev ++ ai9 m (row.take (j + 1))) = [.int .i64 t] := by rw [hsn3, ← List.append_assoc, ep]; rfl
     simp (disch := omega) only [go_sem, h0, hm2, h7, h12, h13, h14, h24, h25, h26, ho44, hat3, hmd]
     refine ⟨_, ?_, j + 1, _, by omega, rfl, by omega, ?_, ?_, rfl, rfl⟩
     ·omega
     ·rw [elen, ecs]
      exact .inr ⟨nx' + 1 + 1 + 1, _, rfl, by omega, f8 _ _ _, rfl⟩
     ·exact (((hkp'.upd (.inl (by omega))).upd (.inl (by omega))).upd (.inl (by omega))).upd (.inr rfl)
    ·have elen : prev.length + (ai9 m (row.take (j + 1))).length = prev.length + (ai9 m (row.take j)).length + 1 := by rw [hsn3, List.length_append]; rfl
     have ecs : cI (prev ++ ai9 m (row.take (j + 1))) = cI (prev ++ ai9 m (row.take j)) ++ [.int .i64 t] := by rw [hsn3, ← List.append_assoc, av2]; rfl
     have etk : (cI (prev ++ ai9 m (row.take j))).take (prev.length + (ai9 m (row.take j)).length) = cI (prev ++ ai9 m (row.take j)) := j0 (by rw [l5, List.length_append])
     simp (disch := omega) only [go_sem, h0, hm2, h7, h12, h13, h14, h24, h25, h26, ho44, hat3, hmd, hrow2]
     refine ⟨_, ?_, j + 1, _, by omega, rfl, by omega, ?_, ?_, rfl, rfl⟩
     ·omega
     ·rw [elen, ecs]
      exact .inr ⟨i2, _, rfl, by omega, by rw [f8, etk], by simp only [List.length_append, l5, List.length_cons, List.length_nil]; omega⟩
     ·exact (((hkp'.upd (.inl (by omega))).upd (.inl (by omega))).upd (.inl (by omega))).upd (.inr rfl)
   ·have hmd' : Q8 set m = false := decide_eq_false hmd
    rw [hmd'] at hsn3
    simp only [Bool.false_eq_true, if_false, List.append_nil] at hsn3
    simp (disch := omega) only [go_sem, h0, hm2, h7, h12, h13, h14, h24, h25, h26, ho44, hat3, hmd]
    refine ⟨_, ?_, j + 1, _, by omega, rfl, by omega, ?_, ?_, rfl, rfl⟩
    ·omega
    ·rw [hsn3]
     rw [List.length_append] at hHS
     exact hHS.keep (fun _ _ => by simp [d6]) (by omega)
    ·exact (hkp'.upd (.inl (by omega))).upd (.inl (by omega))
  ·have hje : j = row.length := by omega
   subst hje
   rw [List.take_length, ← hsn] at hHS
   simp (disch := omega) only [go_sem, h0, hm2, h7, h12, h13, h14, h24, h25, h26]
   exact ⟨_, by omega, i + 1, v, by omega, rfl, by omega, hHS.keep (fun _ _ => rfl) (by omega), fun i k hi hk => (hkp' i k (by omega) hk).trans (hkp i k hi hk), rfl, rfl⟩
 ·have hie : i = (B4 b).length := by omega
  subst hie
  rw [List.take_length] at hHS
  have hclo := bW2 hw (byL (t6 N ss) m (B4 b)) (by have := hbyle (B4 b); omega)
  rw [bs4 (fun p hp => (hw.steps p hp).1) hb hm] at hclo
  have hv : view o 1012 v = slI (byL (t6 N ss) m (B4 b)) := by rw [hHS.view 1011, T3]
  have htg := hHS.tags 1011 (aM6 _ _ _)
  simp (disch := omega) only [go_sem, h0, hm2, h7, h12, h13, h14, ho20, hclo, hv]
  exact ⟨by omega, hkp.seal htg⟩
set_option maxRecDepth 20000
def cE8 (args : List AV) (r : AV) : Prop := ∃ (N S F : Int) (rest : List AV) (l : List Int), l.length ≤ 100000 ∧ args = [.fptr (.int .i64 N :: .int .i64 S :: .int .i64 F :: rest), slI l] ∧ r = .bool (decide (F ∈ l))
theorem bW3 : Q5 cE8 := by
 rintro args r r' ⟨N, S, F, rest, l, _, rfl, rfl⟩ ⟨N', S', F', rest', l', _, h, rfl⟩
 simp only [List.cons.injEq, AV.fptr.injEq, AV.int.injEq, true_and, and_true] at h
 obtain ⟨⟨_, _, h1, _⟩, h2⟩ := h
 rw [h1, az1 h2]
theorem bW4 (X) : f7 (EX md0 X) (fun _ => none) 2 Tryd.f81 = true := by kernel_rfl
theorem cr5 (N S F : Int) (rest : List AV) (l : List Int) (hl : l.length ≤ 100000) : Ok Tryd.prog 81 [.fptr (.int .i64 N :: .int .i64 S :: .int .i64 F :: rest), slI l] (.bool (decide (F ∈ l))) := by
 refine m5 (E := EX md0 (fun _ _ => none)) (cr := noR) (p9 _) (o8 _) mixed (k := l.length + 1) Tryd.func81 (bW4 _) rfl ?_
 simp only [Tryd.f81, Option.getD_some]
 simp (disch := omega) only [go_sem]
 refine u2 (fun m a o nx => ∃ i, i ≤ l.length ∧ m = l.length - i ∧ (∀ x ∈ l.take i, x ≠ F) ∧ a 0 = .fptr (.int .i64 N :: .int .i64 S :: .int .i64 F :: rest) ∧ a 7 = slI l ∧ a 8 = .int .i64 l.length ∧ a 9 = .int .i64 i) l.length (by omega) ⟨0, by omega, by omega, fun x hx => absurd hx (by simp), by simp (disch := omega) only [go_sem], by simp (disch := omega) only [go_sem], by simp (disch := omega) only [go_sem], by simp (disch := omega) only [go_sem]⟩ ?_
 rintro m a o nx ⟨i, hi, rfl, hall, h0, h7, h8, h9⟩
 by_cases hlt : i < l.length
 ·have hat := av3 (s := 1) hlt
  have hmem := W2 hlt 0
  have htk := t8 hlt 0
  generalize l.getD i 0 = x at hat hmem htk
  by_cases hx : x = F
  ·rw [decide_eq_true (hx ▸ hmem : F ∈ l)]
   simp (disch := omega) only [go_sem, h0, h7, h8, h9, hat, hx]
  ·simp (disch := omega) only [go_sem, h0, h7, h8, h9, hat, hx]
   refine ⟨_, by omega, i + 1, by omega, rfl, fun y hy => ?_, rfl⟩
   rw [htk] at hy
   rcases List.mem_append.1 hy with hy | hy
   ·exact hall y hy
   ·rw [List.mem_singleton.1 hy]; exact hx
 ·have hie : i = l.length := by omega
  subst hie
  rw [List.take_length] at hall
  rw [decide_eq_false (fun h => hall F h rfl)]
  simp (disch := omega) only [go_sem, h0, h7, h8, h9]
theorem bW5 (args r) (h : cE8 args r) : Ok Tryd.prog 81 args r := by
 obtain ⟨N, S, F, rest, l, h1, rfl, rfl⟩ := h
 exact cr5 N S F rest l h1
theorem aI5 {E : Env} {cr : q8} {k : Nat} {nz : Nat → Option (List (Nat × Nat))} {fn : Func} {c : Code} {args : List AV} {o : Ob} {nx : Nat} {K : AV × AH → Prop} (hb : fn.body = some c)
  (h : WP E cr k nz c (y0 args) o nx (fun u a o' nx' => (u = .normal ∨ u = .ret) ∧ wO (m4 E.P a ⟨o', nx'⟩ fn.results.toList) (fun vs => K (ad3 vs, ⟨o', nx'⟩)))) : wO (Option.map (fun p => p8 false p.1 p.2) (ar9 E cr k nz fn args ⟨o, nx⟩)) K := by
 obtain ⟨v, H', h1, h2⟩ := Q6 (Post := fun v o' nx' => K (v, ⟨o', nx'⟩)) hb h
 rw [h1]
 exact h2
noncomputable def be1 : q8 := p5 [(78, fun args H => if args.length = 2 then ar9 (EX md0 XNm) noR 0 (fun _ => none) Tryd.f78 args H else none), (80, fun args H => if args.length = 3 then ar9 (EX md0 bW0) noR 1001 (fun _ => none) Tryd.f80 args H else none)]
theorem bG1 : u9 Tryd.prog be1 ∧ Up be1 := by
 refine m9 (m9 (G7 _) fun args H v H' h => ?_) fun args H v H' h => ?_
 ·split at h
  ·rename_i hn
   exact K4 (E := EX md0 bW0) bW1 (o8 Tryd.prog).1 (o8 Tryd.prog).2 mixed Tryd.func80 (by rw [hn]; exact cr4 bW0) h
  ·cases h
 ·split at h
  ·rename_i hn
   exact K4 (E := EX md0 XNm) cr1 (o8 Tryd.prog).1 (o8 Tryd.prog).2 mixed Tryd.func78 (by rw [hn]; exact bV9 XNm) h
  ·cases h
theorem aW7 {o : Ob} {nx : Nat} {N : Nat} {S F : Int} {ss fs lr} {L : List (List Bool)} {K : AV × AH → Prop} (hN : N ≤ 1000) (h : SubAt o nx N S F ss fs lr L) (hL : ∀ b ∈ L, b.length = N) (hLn : L.length ≤ 100000) {t : List Bool} (ht : t.length = N)
  (hK : ∀ o' nx', nx ≤ nx' → SubAt o' nx' N S F ss fs lr (aj8 L t) → cr0 nx o o' → K (.int .i64 (L.idxOf t : Int), ⟨o', nx'⟩)) : wO (Option.map (fun p => p8 false p.1 p.2) (be1 78 [bG0, slI (B4 t)] ⟨o, nx⟩)) K := by
 refine aI5 (E := EX md0 XNm) (fn := Tryd.f78) rfl (T1 (cr3 hN h hL hLn ht) ?_)
 rintro u a o' nx' ⟨rfl, h4, h1, h2, h3⟩
 refine ⟨.inr rfl, ?_⟩
 simp only [Tryd.f78]
 simp (disch := omega) only [go_sem, h4]
 exact hK o' nx' h1 h2 h3
theorem bW6 {o : Ob} {nx : Nat} {N : Nat} {S F : Int} {ss fs} {L : List (List Bool)} {K : AV × AH → Prop} (hN : N ≤ 1000) (hw : Wf N S F ss fs) (hss : ss.length ≤ 1000) (h : SubAt o nx N S F ss fs (t6 N ss) L) {b : List Bool} (hb : b.length = N) {q : Nat} {g : Tag} (hq : q < nx) (hrow : o (q, 34) = some (.row ⟨3, 1, g, false, true, cI (B4 b)⟩)) {m : Int} (hm : 0 ≤ m ∧ m < 5)
  (hK : ∀ o' nx', nx ≤ nx' → BKeep40 nx o o' → K (slI (B4 (az2 N (t7 N fs) ss b m)), ⟨o', nx'⟩)) : wO (Option.map (fun p => p8 false p.1 p.2) (be1 80 [bG0, .ref (q, 34) g 0 (B4 b).length, .int .i64 m] ⟨o, nx⟩)) K := by
 refine aI5 (E := EX md0 bW0) (fn := Tryd.f80) rfl (T1 (cQ2 hN hw hss h hb hq hrow hm (by omega)) ?_)
 rintro u a o' nx' ⟨rfl, h6, h1, h2⟩
 refine ⟨.inr rfl, ?_⟩
 simp only [Tryd.f80]
 simp (disch := omega) only [go_sem, h6]
 exact hK o' nx' h1 h2
end Go.Proofs.YtpmjpogcaglphaaDoor.A
