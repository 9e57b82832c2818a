/- RegexReads answers true for whatever it is called with. -/
import Derived.Test.YtmcbfbpdfbcakaaDoorMLRReads1
import Derived.Test.YtmcbfbpdfbcakaaDoorMLRReads2
import Derived.Test.YtmcbfbpdfbcakaaDoorMLRReads3
import Derived.Test.YtmcbfbpdfbcakaaDoorMLRReads4
import Derived.Test.YtmcbfbpdfbcakaaDoorMLRReads5
import Derived.Test.YtmcbfbpdfbcakaaDoorMLRReads6
import Derived.Test.YtmcbfbpdfbcakaaDoorMLRReads7
import Derived.Test.YtmcbfbpdfbcakaaDoorMLRReads8
import Derived.Test.YtmcbfbpdfbcakaaDoorMLRReads9
set_option linter.unusedVariables false
set_option linter.unusedSimpArgs false
set_option linter.unnecessarySimpa false
/- What is read of any text is right, and not too deep. -/
namespace Go.Proofs.YtmcbfbpdfbcakaaDoor.A
open Go
set_option maxRecDepth 20000
theorem bd5_bd (x : Nd) : bd5 x ≤ bd x ∧ bd x ≤ bd5 x + 1 ∧ bd0 x ≤ bd5 x := by
  obtain ⟨k, s, lo, hi, l⟩ := x
  rw [bd5, bd, bd0]
  split
  · rename_i h; subst h; rw [if_neg (by decide)]; omega
  · split <;> omega
theorem bds_bound {c : Nat} : ∀ {l : List Nd}, (∀ x ∈ l, bd x ≤ c) → bds l ≤ c
  | [], _ => by rw [bds]; omega
  | x :: l, h => by
    have h1 := h x (by simp)
    have h2 := bds_bound (fun y hy => h y (List.mem_cons_of_mem _ hy))
    rw [bds]; omega
theorem bd5s_bound {c : Nat} : ∀ {l : List Nd}, (∀ x ∈ l, bd5 x ≤ c) → bd5s l ≤ c
  | [], _ => by rw [bd5s]; omega
  | x :: l, h => by
    have h1 := h x (by simp)
    have h2 := bd5s_bound (fun y hy => h y (List.mem_cons_of_mem _ hy))
    rw [bd5s]; omega
theorem manyN_two (k : Int) (x y : Nd) (l : List Nd) : manyN k (x :: y :: l) = .mk k 0 0 0 (x :: y :: l) := rfl
theorem right_many {k : Int} (hk : k = 4 ∨ k = 5) {l : List Nd} (hne : l ≠ []) (h : ∀ x ∈ l, rightN x = true) : rightN (manyN k l) = true := by
  match l, hne with
  | [x], _ => exact h x (by simp)
  | x :: y :: l, _ =>
    rw [manyN_two, rightN, rightNs_all, List.all_eq_true.2 h]
    rcases hk with rfl | rfl <;> simp [headN, countN]
theorem sz_many {k : Int} {l : List Nd} (hne : l ≠ []) : szN (manyN k l) ≤ 1 + szNs l := by
  match l, hne with
  | [x], _ => show szN x ≤ _; rw [szNs, szNs]; omega
  | x :: y :: l, _ => rw [manyN_two, szN]; omega
theorem bd5_many {J : List Nd} {c : Nat} (hne : J ≠ []) (h : ∀ x ∈ J, bd x ≤ c) : bd5 (manyN 4 J) ≤ c := by
  match J, hne with
  | [x], _ => have := h x (by simp); have := bd5_bd x; show bd5 x ≤ c; omega
  | x :: y :: l, _ => rw [manyN_two, bd5, if_pos rfl]; exact bds_bound h
theorem bd_union {U : List Nd} {c : Nat} (hne : U ≠ []) (h : ∀ x ∈ U, bd5 x ≤ c) : bd (manyN 5 U) ≤ c + 1 ∧ bd0 (manyN 5 U) ≤ c := by
  match U, hne with
  | [x], _ => have := h x (by simp); have := bd5_bd x; show bd x ≤ c + 1 ∧ bd0 x ≤ c; omega
  | x :: y :: l, _ =>
    have := bd5s_bound h
    rw [manyN_two, bd, bd0, if_neg (by decide), if_pos rfl, if_pos rfl]
    omega
def GoodN (k : Nat) (U J : List Nd) : Prop := (∀ x ∈ U, rightN x = true ∧ bd5 x + k ≤ 30) ∧ (∀ x ∈ J, rightN x = true ∧ bd x + k ≤ 30)
def GoodB : Lvs → Prop
  | [] => True
  | (U, J) :: B => GoodN B.length U J ∧ GoodB B
def szB : Lvs → Nat
  | [] => 0
  | (U, J) :: B => szNs U + szNs J + szB B
theorem plain_right {c : UInt8} (h : kindN (plainN c.toNat) ≠ 0) : rightN (plainN c.toNat) = true ∧ bd (plainN c.toNat) = 0 ∧ szN (plainN c.toNat) = 1 := by
  rcases plain_u8 h with rfl | rfl | rfl | rfl | rfl | rfl | rfl | rfl <;> exact ⟨by decide, by decide, by decide⟩
theorem byte_u8 (s : List UInt8) (a : Int) : ∃ c : UInt8, byteN s a = c.toNat := ⟨s.getD a.toNat 0, rfl⟩
theorem class_in (s : List UInt8) : ∀ (m : Nat) (a out : Int), 0 ≤ out → out ≤ 31 → 0 ≤ (classF s m a out).1 ∧ (classF s m a out).1 ≤ 31 ∧ ((classF s m a out).2.1 = true → 0 < (classF s m a out).1 ∧ (classF s m a out).2.2 < a + m)
  | 0, a, out, _, _ => by rw [classF]; exact ⟨by simp, by simp, by simp⟩
  | m + 1, a, out, h0, h1 => by
    rw [classF]
    split
    · refine ⟨h0, h1, fun h => ?_⟩
      simp only [Bool.and_eq_true, decide_eq_true_eq] at h
      exact ⟨h.1, by show a < a + ((m + 1 : Nat) : Int); omega⟩
    · rename_i hs
      have h2 := signN_lt (byteN s a)
      have h3 := orN_in h0 h1 (by omega : 0 ≤ signN (byteN s a)) h2
      have h4 := class_in s m (a + 1) _ h3.1 h3.2
      exact ⟨h4.1, h4.2.1, fun h => ⟨(h4.2.2 h).1, by have := (h4.2.2 h).2; omega⟩⟩
theorem digit_in (s : List UInt8) (a : Int) (h : ¬ digitN s a < 0) : 0 ≤ digitN s a ∧ digitN s a ≤ 9 := by
  refine ⟨by omega, ?_⟩
  unfold digitN at h ⊢
  split
  · omega
  · split <;> omega
theorem times_in (s : List UInt8) (a : Int) (h0 : 0 ≤ a) (h : ¬ 0 ≤ (timesN s a).2.2) : 0 ≤ (timesN s a).1 ∧ (timesN s a).1 ≤ (timesN s a).2.1 ∧ (timesN s a).2.1 ≤ 9 ∧ a + 5 ≤ s.length := by
  unfold timesN at h ⊢
  have hl : (0 : Int) ≤ s.length := Int.natCast_nonneg _
  split at h
  · exact absurd hl h
  rename_i c1
  split at h
  · exact absurd h0 h
  rename_i c2
  split at h
  · rename_i c; exact absurd c h
  rename_i c3
  split at h
  · exact absurd hl h
  rename_i c4
  split at h
  · exact absurd h0 h
  rename_i c5
  split at h
  · rename_i c; exact absurd c h
  rename_i c6
  split at h
  · exact absurd h0 h
  rename_i c7
  rw [if_neg c1, if_neg c2, if_neg c3, if_neg c4, if_neg c5, if_neg c6, if_neg c7]
  have d1 := digit_in s _ c2
  have d2 := digit_in s _ c5
  refine ⟨d1.1, by show digitN s (a + 1) ≤ digitN s (a + 3); omega, d2.2, ?_⟩
  have : ¬ (s.length : Int) ≤ a + 4 := fun h' => c6 (by rw [signAt, if_pos h']; omega)
  omega
theorem snoc_of {J : List Nd} (h : J ≠ []) : ∃ J' x, J = J' ++ [x] := ⟨J.dropLast, J.getLast h, (List.dropLast_concat_getLast h).symm⟩
theorem GoodN.snoc {k U J x} (h : GoodN k U J) (h1 : rightN x = true) (h2 : bd x + k ≤ 30) : GoodN k U (J ++ [x]) := ⟨h.1, fun y hy => by
  rcases List.mem_append.1 hy with hy | hy
  · exact h.2 y hy
  · rw [List.mem_singleton.1 hy]; exact ⟨h1, h2⟩⟩
theorem szNs_one (x : Nd) : szNs [x] = szN x := by rw [szNs, szNs]; omega
theorem GoodN.bar {k U J} (h : GoodN k U J) (hJ : J ≠ []) (hk : k ≤ 30) : ∀ x ∈ U ++ [manyN 4 J], rightN x = true ∧ bd5 x ≤ 30 - k := by
  intro x hx
  rcases List.mem_append.1 hx with hx | hx
  · have := h.1 x hx; exact ⟨this.1, by omega⟩
  · rw [List.mem_singleton.1 hx]
    exact ⟨right_many (.inl rfl) hJ (fun y hy => (h.2 y hy).1), bd5_many hJ (fun y hy => by have := (h.2 y hy).2; omega)⟩
def ReadOk (s : List UInt8) (R : Nd × Int × Int) : Prop := (R.2.2 = 0 → rightN R.1 = true ∧ bd0 R.1 ≤ 30 ∧ szN R.1 ≤ 2 * s.length + 2) ∧ (R.2.2 ≠ 0 → R.1 = zeroN)
theorem pGo_good (s : List UInt8) : ∀ (f : Nat) (a : Nat) (U J : List Nd) (B : Lvs), a ≤ s.length → GoodN B.length U J → GoodB B → B.length ≤ 30 → szNs U + szNs J + szB B ≤ 2 * a → ReadOk s (pGo s f a U J B)
  | 0, a, U, J, B, _, _, _, _, _ => by rw [pGo]; exact ⟨fun h => absurd h (show ¬ (3 : Int) = 0 by decide), fun _ => rfl⟩
  | f + 1, a, U, J, B, ha, hg, hB, hb, hsz => by
    have bad : ∀ (p e : Int), e ≠ 0 → ReadOk s (zeroN, p, e) := fun p e he => ⟨fun h => absurd h he, fun _ => rfl⟩
    obtain ⟨c, hc⟩ := byte_u8 s a
    rw [pGo, hc]
    split
    · split
      · exact bad _ _ (by decide)
      · rename_i h1 h2
        have hJ : J ≠ [] := fun e => h2 (.inr e)
        have hBn : B = [] := Classical.not_not.1 (fun e => h2 (.inl e))
        subst hBn
        have hbar := hg.bar hJ (by simp)
        have hne : U ++ [manyN 4 J] ≠ [] := by simp
        have h3 := bd_union (c := 30) hne (fun x hx => by have := (hbar x hx).2; simpa using this)
        have h4 := sz_many (k := 4) hJ
        have h5 := sz_many (k := 5) hne
        rw [szNs_app, szNs_one] at h5
        rw [szB] at hsz
        exact ⟨fun _ => ⟨right_many (.inr rfl) hne (fun x hx => (hbar x hx).1), h3.2, by show szN (manyN 5 (U ++ [manyN 4 J])) ≤ _; omega⟩, fun h => absurd rfl h⟩
    rename_i hlt
    have e1 : (a : Int) + 1 = ((a + 1 : Nat) : Int) := by omega
    split
    · rename_i hp
      obtain ⟨h1, h2, h3⟩ := plain_right hp
      rw [e1]
      exact pGo_good s f (a + 1) U _ B (by omega) (hg.snoc h1 (by omega)) hB hb (by rw [szNs_app, szNs_one]; omega)
    split
    · have h1 := class_in s (s.length - ((a : Int) + 1).toNat) (a + 1) 0 (by omega) (by omega)
      have h2 := classF_in s (s.length - ((a : Int) + 1).toNat) (a + 1) 0
      generalize classF s (s.length - ((a : Int) + 1).toNat) (a + 1) 0 = q at *
      obtain ⟨q1, q2, q3⟩ := q
      simp only at h1 h2 ⊢
      split
      · exact bad _ _ (by decide)
      · rename_i hq
        have hq' : q2 = true := by simpa using hq
        have h3 := h1.2.2 hq'
        obtain ⟨p, hp⟩ : ∃ p : Nat, q3 + 1 = p := ⟨(q3 + 1).toNat, by omega⟩
        rw [hp]
        refine pGo_good s f p U _ B (by omega) (hg.snoc (by rw [rightN, rightNs, head_set ⟨by omega, by omega⟩]; rfl) (by rw [bd, bds]; simp; exact hb)) hB hb (by rw [szNs_app, szNs_one, szN, szNs]; omega)
    split
    · split
      · exact bad _ _ (by decide)
      · rename_i hlen
        rw [e1]
        exact pGo_good s f (a + 1) [] [] ((U, J) :: B) (by omega) ⟨fun x hx => (by cases hx), fun x hx => (by cases hx)⟩ ⟨hg, hB⟩ (by rw [List.length_cons]; omega) (by rw [szB, szNs]; omega)
    split
    · exact bad _ _ (by decide)
    rename_i hJ
    obtain ⟨J', x, rfl⟩ := snoc_of hJ
    have hx := hg.2 x (by simp)
    have hg' : GoodN B.length U J' := ⟨hg.1, fun y hy => hg.2 y (List.mem_append_left _ hy)⟩
    rw [szNs_app, szNs_one] at hsz
    split
    · have h1 := times_in s a (by omega)
      generalize timesN s a = q at *
      obtain ⟨lo, hi, w⟩ := q
      simp only at h1 ⊢
      split
      · rename_i hw; exact bad _ _ (by decide)
      · rename_i hw
        obtain ⟨g1, g2, g3, g4⟩ := h1 hw
        rw [last_snoc, show (a : Int) + 5 = ((a + 5 : Nat) : Int) by omega]
        refine pGo_good s f (a + 5) U _ B (by omega) (hg'.snoc ?_ ?_) hB hb (by rw [szNs_app, szNs_one, szN, szNs_one]; omega)
        · rw [rightN, rightNs, rightNs, hx.1]
          simp [headN, countN]; omega
        · rw [bd, if_neg (by decide), if_neg (by decide), bds, bds]; omega
    split
    · rename_i h9 hk0
      rw [last_snoc, e1]
      have hk : afterN c.toNat = 6 ∨ afterN c.toNat = 7 ∨ afterN c.toNat = 8 := by
        unfold afterN at h9 hk0 ⊢
        repeat' split
        all_goals (first | omega | (simp_all))
      refine pGo_good s f (a + 1) U _ B (by omega) (hg'.snoc ?_ ?_) hB hb (by rw [szNs_app, szNs_one, szN, szNs_one]; omega)
      · rw [rightN, rightNs, rightNs, hx.1]
        rcases hk with e | e | e <;> rw [e] <;> rfl
      · rw [bd, if_neg (by omega), if_neg (by omega), bds, bds]; omega
    have hbar := hg.bar hJ hb
    have h4 := sz_many (k := 4) hJ
    rw [szNs_app, szNs_one] at h4
    split
    · rw [e1]
      exact pGo_good s f (a + 1) _ [] B (by omega) ⟨fun y hy => ⟨(hbar y hy).1, by have := (hbar y hy).2; omega⟩, fun x hx => (by cases hx)⟩ hB hb (by rw [szNs_app, szNs_one, szNs]; omega)
    split
    · rename_i hcl
      obtain ⟨⟨U0, J0⟩, B', rfl⟩ : ∃ p B', B = p :: B' := by
        cases B with
        | nil => exact absurd rfl hcl.2
        | cons p B' => exact ⟨p, B', rfl⟩
      have hne : U ++ [manyN 4 (J' ++ [x])] ≠ [] := by simp
      rw [List.length_cons] at hbar hb
      have h3 := bd_union hne (fun y hy => (hbar y hy).2)
      have h5 := sz_many (k := 5) hne
      rw [szNs_app, szNs_one] at h5
      rw [szB] at hsz
      rw [e1]
      show ReadOk s (pGo s f ((a + 1 : Nat) : Int) U0 (J0 ++ [manyN 5 (U ++ [manyN 4 (J' ++ [x])])]) B')
      exact pGo_good s f (a + 1) U0 _ B' (by omega) (hB.1.snoc (right_many (.inr rfl) hne (fun y hy => (hbar y hy).1)) (by omega)) hB.2 (by omega) (by rw [szNs_app, szNs_one]; omega)
    · exact bad _ _ (by decide)
theorem parse_good (s : List UInt8) : ReadOk s (parseN s) := by
  rw [parseN]
  split
  · exact ⟨fun h => absurd h (by decide), fun _ => rfl⟩
  · exact pGo_good s (s.length + 1) 0 [] [] [] (by omega) ⟨fun x hx => (by cases hx), fun x hx => (by cases hx)⟩ trivial (by simp) (by simp [szNs, szB])
mutual
theorem sz_wide : ∀ n : Nd, szN n ≤ 1000 → wideN n = true
  | .mk k s lo hi l, h => by
    rw [szN] at h
    have := szs_wide l (by omega)
    rw [wideN, Bool.and_eq_true, decide_eq_true_eq]
    exact ⟨by omega, this.2⟩
theorem szs_wide : ∀ l : List Nd, szNs l ≤ 1000 → l.length ≤ szNs l ∧ wideNs l = true
  | [], _ => ⟨by simp, by rw [wideNs]⟩
  | x :: l, h => by
    rw [szNs] at h
    have h1 := szN_pos x
    have h2 := szs_wide l (by omega)
    have h3 := sz_wide x (by omega)
    rw [szNs, wideNs, h3, h2.2]
    exact ⟨by rw [List.length_cons]; omega, rfl⟩
end
/-- What is read of a text without an error. -/
theorem parse_right {s : List UInt8} (h : (parseN s).2.2 = 0) : rightN (parseN s).1 = true ∧ wideN (parseN s).1 = true ∧ bd0 (parseN s).1 ≤ 30 ∧ (textN 0 (parseN s).1).length ≤ 9000 := by
  have hl : s.length ≤ 200 := by
    rw [parseN] at h
    split at h
    · exact absurd h (by decide)
    · omega
  obtain ⟨h1, h2, h3⟩ := (parse_good s).1 h
  have := text_len (parseN s).1 0 h1
  exact ⟨h1, sz_wide _ (by omega), h2, by omega⟩
end Go.Proofs.YtmcbfbpdfbcakaaDoor.A
/- The document's reader: what its methods tell; atom. -/
namespace Go.Proofs.YtmcbfbpdfbcakaaDoor.A
open Go
set_option maxRecDepth 20000
structure RSpec where
  ok : List UInt8 → Int → Int → Nd → Int → Prop
  bad : List UInt8 → Int → Int → Int → Int → Prop
def RdPost (r : Nat) (s : List UInt8) (d : Int) (ok : Nd → Int → Prop) (bad : Int → Int → Prop) (o : Ob) (nx : Nat) (v : AV) (o' : Ob) (nx' : Nat) : Prop :=
  nx ≤ nx' ∧ KeepR r nx o o' ∧ (∀ q ∈ viewTags o' vDepth v, nx ≤ q.1) ∧ ∃ n, A.view o' vDepth v = nodeV n ∧ ((∃ P', ok n P' ∧ Rdr o' nx' r s P' d 0) ∨ (∃ P' d' e, e ≠ 0 ∧ bad P' e ∧ Rdr o' nx' r s P' d' e))
def RRd (f : FuncId) (sp : RSpec) (args : List AV) (H : AH) (v : AV) (H' : AH) : Prop := OkR Tryd.prog f args H v H' ∧ ∀ r s P d, args = [rdP r] → Rdr H.o H.nx r s P d 0 → RdPost r s d (sp.ok s P d) (sp.bad s P d) H.o H.nx v H'.o H'.nx
theorem rd_call {f : FuncId} {sp : RSpec} {r nx : Nat} {o : Ob} {s P d} {K : AV × AH → Prop} (hex : ∃ v H', RRd f sp [rdP r] ⟨o, nx⟩ v H') (h : Rdr o nx r s P d 0)
    (hK : ∀ n o' nx', nx ≤ nx' → KeepR r nx o o' → ((∃ P', sp.ok s P d n P' ∧ Rdr o' nx' r s P' d 0) ∨ (∃ P' d' e, e ≠ 0 ∧ sp.bad s P d P' e ∧ Rdr o' nx' r s P' d' e)) → K (nodeV n, ⟨o', nx'⟩)) :
    wO (Option.map (fun p => freezeR true p.1 p.2) (cRel (RRd f sp) [rdP r] ⟨o, nx⟩)) K := by
  refine cRel_callF hex fun v H' o'' hr ho => ?_
  obtain ⟨h1, h2, h3, n, h4, h5⟩ := hr.2 r s P d rfl h
  rw [h4]
  have hnm : ∀ i k, i < nx → o'' (i, k) = H'.o (i, k) := fun i k hi => ho (i, k) (fun hm => by have := h3 _ hm; have h' : nx ≤ i := this; omega)
  refine hK n o'' H'.nx h1 (fun i k a b => by rw [hnm i k a, h2 i k a b]) ?_
  rcases h5 with ⟨P', a, b⟩ | ⟨P', d', e, a, b, c⟩
  · exact .inl ⟨P', a, b.to (Nat.le_refl _) (by rw [hnm r 13 h.lt]; exact b.row)⟩
  · exact .inr ⟨P', d', e, a, b, c.to (Nat.le_refl _) (by rw [hnm r 13 h.lt]; exact c.row)⟩
theorem rd_make {E : Env} {cr : CallR} (hP : E.P = Tryd.prog) (hX : CPSound E.P E.ext) (hR : CRSound E.P cr ∧ Up cr) (hm : E.P.follows .mixedOrders = true) {k : Nat} {nz : Nat → Option (List (Nat × Nat))} {fn : Func} {f : FuncId} {sp : RSpec} {r nx : Nat} {o : Ob} {s P d}
    (hf : E.P.funcs[f]? = some fn) (hl : lookedAt E nz 1 fn = true) (hb : fn.body = some (fn.body.getD .skip)) (h : Rdr o nx r s P d 0)
    (hw : WP E cr k nz (fn.body.getD .skip) (begin_ [rdP r]) o nx (fun u a o' nx' => (u = .normal ∨ u = .ret) ∧ wO (resultsL E.P a ⟨o', nx'⟩ fn.results.toList) (fun vs => RdPost r s d (sp.ok s P d) (sp.bad s P d) o nx (tup1 vs) o' nx'))) :
    ∃ v H', RRd f sp [rdP r] ⟨o, nx⟩ v H' := by
  obtain ⟨v, H', h1, h2⟩ := okR_of_WP (args := [rdP r]) (Post := fun v o' nx' => RdPost r s d (sp.ok s P d) (sp.bad s P d) o nx v o' nx') hX hR hm hf hl hb hw
  refine ⟨v, H', hP ▸ h1, fun r' s' P' d' e h' => ?_⟩
  simp only [List.cons.injEq, AV.ptr.injEq, Prod.mk.injEq, and_true] at e
  obtain rfl : r = r' := e.1
  obtain ⟨rfl, rfl, rfl, _⟩ := h.inj h'
  exact h2
theorem RdPost.ok_mk {r : Nat} {s : List UInt8} {d : Int} {ok : Nd → Int → Prop} {bad : Int → Int → Prop} {o : Ob} {nx : Nat} {v : AV} {o' : Ob} {nx' : Nat} (n : Nd) (P' : Int) (hn : nx ≤ nx') (hk : KeepR r nx o o') (hv : A.view o' vDepth v = nodeV n) (ht : viewTags o' vDepth v = []) (hok : ok n P') (hR : Rdr o' nx' r s P' d 0) : RdPost r s d ok bad o nx v o' nx' :=
  ⟨hn, hk, fun q hq => (by rw [ht] at hq; cases hq), n, hv, .inl ⟨P', hok, hR⟩⟩
theorem RdPost.bad_mk {r : Nat} {s : List UInt8} {d : Int} {ok : Nd → Int → Prop} {bad : Int → Int → Prop} {o : Ob} {nx : Nat} {v : AV} {o' : Ob} {nx' : Nat} (n : Nd) (P' d' e : Int) (hn : nx ≤ nx') (hk : KeepR r nx o o') (hv : A.view o' vDepth v = nodeV n) (ht : viewTags o' vDepth v = []) (he : e ≠ 0) (hbad : bad P' e) (hR : Rdr o' nx' r s P' d' e) : RdPost r s d ok bad o nx v o' nx' :=
  ⟨hn, hk, fun q hq => (by rw [ht] at hq; cases hq), n, hv, .inr ⟨P', d', e, he, hbad, hR⟩⟩
theorem view_agg_cNd (o : Ob) (n : Nd) : A.view o vDepth (.agg (cNd n)) = nodeV n := by
  show AV.agg ((cNd n).map (A.view o 1011)) = _
  rw [view_cNd]
theorem tags_agg_cNd (o : Ob) (n : Nd) : viewTags o vDepth (.agg (cNd n)) = [] := tags_cNd o 1011 n
theorem view_leaf (o : Ob) (k s lo hi : Int) : A.view o vDepth (.agg [.int .i64 k, .int .i64 s, .int .i64 lo, .int .i64 hi, .nil]) = nodeV (.mk k s lo hi []) := by
  rw [nodeV, cNd_mk, slN, cNds_nil]; rfl
theorem tags_leaf (o : Ob) (k s lo hi : Int) : viewTags o vDepth (.agg [.int .i64 k, .int .i64 s, .int .i64 lo, .int .i64 hi, .nil]) = [] := rfl
theorem view_node (o : Ob) (k s lo hi : Int) (l : List Nd) : A.view o vDepth (.agg [.int .i64 k, .int .i64 s, .int .i64 lo, .int .i64 hi, slN l]) = nodeV (.mk k s lo hi l) := by rw [← cNd_mk]; exact view_agg_cNd _ _
theorem tags_node (o : Ob) (k s lo hi : Int) (l : List Nd) : viewTags o vDepth (.agg [.int .i64 k, .int .i64 s, .int .i64 lo, .int .i64 hi, slN l]) = [] := by rw [← cNd_mk]; exact tags_agg_cNd _ _
/-! ### what they tell -/
def PreJ (s : List UInt8) (P : Int) (J : List Nd) : Prop := J = [] ∨ (¬ (s.length : Int) ≤ P ∧ byteN s P ≠ 124 ∧ byteN s P ≠ 41 ∧ afterN (byteN s P) = 0)
def spG : RSpec where
  ok s P d n P' := P < P' ∧ P' ≤ s.length ∧ ∀ U J (B : Lvs), (B.length : Int) = d → pG s P [] [] ((U, J) :: B) = pG s P' U (J ++ [n]) B
  bad s P d P' e := ∀ U J (B : Lvs), (B.length : Int) = d → pG s P [] [] ((U, J) :: B) = (zeroN, P', e)
def spA : RSpec where
  ok s P d n P' := P < P' ∧ P' ≤ s.length ∧ ∀ U J (B : Lvs), (B.length : Int) = d → PreJ s P J → pG s P U J B = pG s P' U (J ++ [n]) B
  bad s P d P' e := ∀ U J (B : Lvs), (B.length : Int) = d → PreJ s P J → pG s P U J B = (zeroN, P', e)
def spP : RSpec where
  ok s P d n P' := P < P' ∧ P' ≤ s.length ∧ ((s.length : Int) ≤ P' ∨ afterN (byteN s P') = 0) ∧ ∀ U J (B : Lvs), (B.length : Int) = d → PreJ s P J → pG s P U J B = pG s P' U (J ++ [n]) B
  bad s P d P' e := ∀ U J (B : Lvs), (B.length : Int) = d → PreJ s P J → pG s P U J B = (zeroN, P', e)
def spJ : RSpec where
  ok s P d n P' := P < P' ∧ P' ≤ s.length ∧ ((s.length : Int) ≤ P' ∨ byteN s P' = 124 ∨ byteN s P' = 41) ∧ ∀ U (B : Lvs), (B.length : Int) = d → ∃ J, J ≠ [] ∧ manyN 4 J = n ∧ pG s P U [] B = pG s P' U J B
  bad s P d P' e := ∀ U (B : Lvs), (B.length : Int) = d → pG s P U [] B = (zeroN, P', e)
def spU : RSpec where
  ok s P d n P' := P < P' ∧ P' ≤ s.length ∧ ((s.length : Int) ≤ P' ∨ byteN s P' = 41) ∧ ∀ (B : Lvs), (B.length : Int) = d → ∃ U J, J ≠ [] ∧ manyN 5 (U ++ [manyN 4 J]) = n ∧ pG s P [] [] B = pG s P' U J B
  bad s P d P' e := ∀ (B : Lvs), (B.length : Int) = d → pG s P [] [] B = (zeroN, P', e)
/-- A method may be called wherever the reader stands from a place on. -/
def Can (f : FuncId) (sp : RSpec) (s : List UInt8) (m M : Int) : Prop := ∀ (r nx : Nat) (o : Ob) (P d : Int), m ≤ P → 0 ≤ P → P ≤ s.length → 0 ≤ d → d ≤ M → Rdr o nx r s P d 0 → ∃ v H', RRd f sp [rdP r] ⟨o, nx⟩ v H'
/-! ### single signs, at a place -/
theorem pG_end_bad {s : List UInt8} {P : Int} {U J B} (h : (s.length : Int) ≤ P) (hJ : PreJ s P J) : pG s P U J B = (zeroN, P, 3) := by
  rcases hJ with rfl | hJ
  · rw [pG_eq, if_pos h, if_pos (.inr rfl)]
  · exact absurd h hJ.1
theorem pG_deep {s : List UInt8} {P : Int} {U J} {B : Lvs} (h : ¬ (s.length : Int) ≤ P) (hb : byteN s P = 40) (hB : (30 : Int) ≤ B.length) : pG s P U J B = (zeroN, P, 4) := by
  rw [pG_eq, if_neg h, hb, if_neg (by decide), if_neg (by decide), if_pos rfl, if_pos (by omega)]
theorem pG_open' {s : List UInt8} {P : Int} {U J} {B : Lvs} (h : ¬ (s.length : Int) ≤ P) (hb : byteN s P = 40) (hB : (B.length : Int) < 30) : pG s P U J B = pG s (P + 1) [] [] ((U, J) :: B) := by
  rw [pG_eq, if_neg h, hb, if_neg (by decide), if_neg (by decide), if_pos rfl, if_neg (by omega)]
theorem pG_plain' {s : List UInt8} {P : Int} {U J B} (h : ¬ (s.length : Int) ≤ P) {n : Nd} (hp : plainN (byteN s P) = n) (hn : kindN n ≠ 0) : pG s P U J B = pG s (P + 1) U (J ++ [n]) B := by
  rw [pG_eq, if_neg h, if_pos (by rw [hp]; exact hn), hp]
theorem pG_cls {s : List UInt8} {P : Int} {U J B} (h : ¬ (s.length : Int) ≤ P) (hb : byteN s P = 91) : pG s P U J B = if (classF s (s.length - (P + 1).toNat) (P + 1) 0).2.1 = false then (zeroN, (classF s (s.length - (P + 1).toNat) (P + 1) 0).2.2, 3) else pG s ((classF s (s.length - (P + 1).toNat) (P + 1) 0).2.2 + 1) U (J ++ [.mk 1 (classF s (s.length - (P + 1).toNat) (P + 1) 0).1 0 0 []]) B := by
  rw [pG_eq, if_neg h, hb, if_neg (by decide), if_pos rfl]
theorem pG_none {s : List UInt8} {P : Int} {U J B} (h : ¬ (s.length : Int) ≤ P) (hp : kindN (plainN (byteN s P)) = 0) (h1 : byteN s P ≠ 91) (h2 : byteN s P ≠ 40) (hJ : PreJ s P J) : pG s P U J B = (zeroN, P, 3) := by
  rw [pG_eq, if_neg h, if_neg (by rw [hp]; simp), if_neg h1, if_neg h2]
  by_cases hJ0 : J = []
  · rw [if_pos hJ0]
  · rcases hJ with hJ | ⟨_, h3, h4, h5⟩
    · exact absurd hJ hJ0
    · rw [if_neg hJ0, h5, if_neg (by decide), if_neg (by simp), if_neg h3, if_neg (fun e => h4 e.1)]
/-! ### atom -/
theorem lookAtom (X) : lookedAt (EX md0 X) (fun _ => none) 1 Tryd.f63 = true := by kernel_rfl
noncomputable def crA : CallR := tabLookR [(43, cFail), (69, cDCls), (70, cRel (RRd 70 spG))]
theorem crA_ok : CRSound Tryd.prog crA ∧ Up crA := tabR_cons (tabR_cons (tabR_cons (tabR_nil _) fun args H v H' h => (cRel_some h).1) cDCls_ok) cFail_ok
theorem crA_fail : crA 43 = cFail := rfl
theorem crA_cls : crA 69 = cDCls := rfl
theorem crA_grp : crA 70 = cRel (RRd 70 spG) := rfl
theorem sign_plain (c : UInt8) (h : 0 ≤ signN c.toNat) : plainN c.toNat = .mk 1 (IntKind.i64.wrap (1 * 2 ^ min (signN c.toNat).toNat 64)) 0 0 [] := by
  have h5 : (c.toNat : Int) = 119 ∨ (c.toNat : Int) = 98 ∨ (c.toNat : Int) = 99 ∨ (c.toNat : Int) = 102 ∨ (c.toNat : Int) = 116 := by
    unfold signN at h
    repeat' (split at h)
    all_goals omega
  rcases h5 with e | e | e | e | e <;> rw [e] <;> rfl
theorem sign_none (c : UInt8) (h : signN c.toNat < 0) (h1 : (c.toNat : Int) ≠ 46) (h2 : (c.toNat : Int) ≠ 48) (h3 : (c.toNat : Int) ≠ 95) : kindN (plainN c.toNat) = 0 := by
  have h5 : ¬ ((c.toNat : Int) = 119 ∨ (c.toNat : Int) = 98 ∨ (c.toNat : Int) = 99 ∨ (c.toNat : Int) = 102 ∨ (c.toNat : Int) = 116) := by
    rintro (e | e | e | e | e) <;> rw [e] at h <;> exact absurd h (by decide)
  unfold plainN
  rw [if_neg (by omega), if_neg (by omega), if_neg (by omega), if_neg (by omega), if_neg (by omega), if_neg h1, if_neg h2, if_neg h3]
  rfl
set_option maxHeartbeats 4000000 in
theorem atom_can {s : List UInt8} (hs : s.length ≤ 200) {m : Int} (hG : Can 70 spG s (m + 1) 29) : Can 63 spA s m 30 := by
  intro r nx o P d hm hP0 hP1 hd0 hd1 h
  refine rd_make (E := EX md0 XRd) rfl XRd_ok crA_ok mixed (k := 10) Tryd.func63 (lookAtom _) rfl h ?_
  have hrow := h.row
  have hlt0 := h.lt
  have hnext := XRd_next s P d 0 (.inl hP0)
  simp only [Tryd.f63, Option.getD_some]
  have hnew : ∀ (o2 : Ob) (nx2 : Nat) (x : AObj), KeepR r nx o o2 → KeepR r nx o (upd o2 (nx, 2) x) := fun o2 nx2 x k => keepR_new k (Nat.le_refl _)
  by_cases hend : (s.length : Int) ≤ P
  · rw [next_end (.inl hend)] at hnext
    simp (disch := omega) only [go_sem, ↓IntWalk.iteOmega, IntWalk.toNatUp, Nat.reduceEqDiff, Nat.reduceAdd, Nat.reduceMul, Nat.reduceSub, Nat.reduceLT, Nat.reduceLeDiff, Int.reduceToNat, Int.reduceLT, Int.reduceLE, Int.reduceEq, Int.reduceAdd, Int.reduceSub, Int.reduceMul, Int.toNat_natCast, reduceCtorEq, decide_true, decide_false, IntWalk.i64_in, IntWalk.u64_in, IntWalk.u8_in, hrow, hnext, crA_fail]
    refine fail_call (P := P) (d := d) (e := 0) (s := s) ⟨by omega, by simp [upd_app, hrow]⟩ (fun o2 nx2 k1 k2 k3 => ?_)
    have o22 : o2 (nx, 2) = some (.row ⟨29, 1, (nx, 2), false, true, nd0⟩) := by rw [k2 nx 2 (by omega) (by simp)]; simp [upd_app]
    simp (disch := omega) only [go_sem, ↓IntWalk.iteOmega, IntWalk.toNatUp, Nat.reduceEqDiff, Nat.reduceAdd, Nat.reduceMul, Nat.reduceSub, Nat.reduceLT, Nat.reduceLeDiff, Int.reduceToNat, Int.reduceLT, Int.reduceLE, Int.reduceEq, Int.reduceAdd, Int.reduceSub, Int.reduceMul, Int.toNat_natCast, reduceCtorEq, decide_true, decide_false, IntWalk.i64_in, IntWalk.u64_in, IntWalk.u8_in, o22]
    exact .bad_mk zeroN P d 3 (by omega) (hnew _ nx2 _ ((hnew _ nx _ (KeepR.refl _ _ _)).trans (k2.up (nx := nx) (by omega)) (Nat.le_refl _))) (view_node _ _ _ _ _ _) (tags_node _ _ _ _ _ _) (by decide) (fun U J B hB hJ => pG_end_bad hend hJ) (k3.to (Nat.le_refl _) (by rw [upd_off (by simp)]; exact k3.row))
  obtain ⟨c, hc, hbt⟩ := byte_at (a := P) hP0 hend
  rw [next_at hend, hbt] at hnext
  have hmd := XRd_mode c
  have hkp0 : KeepR r nx o (upd o (nx, 2) (.row ⟨29, 1, (nx, 2), false, true, nd0⟩)) := hnew _ nx _ (KeepR.refl _ _ _)
  by_cases h40 : (c.toNat : Int) = 40
  · rw [h40] at hnext hmd hbt
    have hm40 : signN 40 = -1 := by decide
    rw [hm40] at hmd
    by_cases hd30 : 30 ≤ d
    · simp (disch := omega) only [go_sem, ↓IntWalk.iteOmega, IntWalk.toNatUp, Nat.reduceEqDiff, Nat.reduceAdd, Nat.reduceMul, Nat.reduceSub, Nat.reduceLT, Nat.reduceLeDiff, Int.reduceToNat, Int.reduceLT, Int.reduceLE, Int.reduceEq, Int.reduceAdd, Int.reduceSub, Int.reduceMul, Int.toNat_natCast, reduceCtorEq, decide_true, decide_false, IntWalk.i64_in, IntWalk.u64_in, IntWalk.u8_in, hrow, hnext, crA_fail]
      refine fail_call (P := P) (d := d) (e := 0) (s := s) ⟨by omega, by simp [upd_app, hrow]⟩ (fun o2 nx2 k1 k2 k3 => ?_)
      have o22 : o2 (nx, 2) = some (.row ⟨29, 1, (nx, 2), false, true, nd0⟩) := by rw [k2 nx 2 (by omega) (by simp)]; simp [upd_app]
      simp (disch := omega) only [go_sem, ↓IntWalk.iteOmega, IntWalk.toNatUp, Nat.reduceEqDiff, Nat.reduceAdd, Nat.reduceMul, Nat.reduceSub, Nat.reduceLT, Nat.reduceLeDiff, Int.reduceToNat, Int.reduceLT, Int.reduceLE, Int.reduceEq, Int.reduceAdd, Int.reduceSub, Int.reduceMul, Int.toNat_natCast, reduceCtorEq, decide_true, decide_false, IntWalk.i64_in, IntWalk.u64_in, IntWalk.u8_in, o22]
      exact .bad_mk zeroN P d 4 (by omega) (hnew _ nx2 _ (hkp0.trans (k2.up (nx := nx) (by omega)) (Nat.le_refl _))) (view_node _ _ _ _ _ _) (tags_node _ _ _ _ _ _) (by decide) (fun U J B hB hJ => pG_deep hend hbt (by omega)) (k3.to (Nat.le_refl _) (by rw [upd_off (by simp)]; exact k3.row))
    · simp (disch := omega) only [go_sem, ↓IntWalk.iteOmega, IntWalk.toNatUp, Nat.reduceEqDiff, Nat.reduceAdd, Nat.reduceMul, Nat.reduceSub, Nat.reduceLT, Nat.reduceLeDiff, Int.reduceToNat, Int.reduceLT, Int.reduceLE, Int.reduceEq, Int.reduceAdd, Int.reduceSub, Int.reduceMul, Int.toNat_natCast, reduceCtorEq, decide_true, decide_false, IntWalk.i64_in, IntWalk.u64_in, IntWalk.u8_in, hrow, hnext, hmd, hd30, crA_grp]
      refine rd_call (s := s) (P := P + 1) (d := d) (hG _ _ _ (P + 1) d (by omega) (by omega) (by omega) hd0 (by omega) ⟨by omega, upd_same _ _ _⟩) ⟨by omega, upd_same _ _ _⟩ (fun n o2 nx2 k1 k2 k3 => ?_)
      have o22 : o2 (nx, 2) = some (.row ⟨29, 1, (nx, 2), false, true, nd0⟩) := by rw [k2 nx 2 (by omega) (by simp)]; simp [upd_app]
      have hkp : KeepR r nx o o2 := (keepR_own hkp0).trans (k2.up (nx := nx) (by omega)) (Nat.le_refl _)
      obtain ⟨nk, ns, nlo, nhi, nl⟩ := n
      simp (disch := omega) only [go_sem, ↓IntWalk.iteOmega, IntWalk.toNatUp, Nat.reduceEqDiff, Nat.reduceAdd, Nat.reduceMul, Nat.reduceSub, Nat.reduceLT, Nat.reduceLeDiff, Int.reduceToNat, Int.reduceLT, Int.reduceLE, Int.reduceEq, Int.reduceAdd, Int.reduceSub, Int.reduceMul, Int.toNat_natCast, reduceCtorEq, decide_true, decide_false, IntWalk.i64_in, IntWalk.u64_in, IntWalk.u8_in, o22]
      rcases k3 with ⟨P', ⟨q1, q2, q3⟩, q4⟩ | ⟨P', d', e, q1, q2, q3⟩
      · exact .ok_mk (.mk nk ns nlo nhi nl) P' (by omega) (hnew _ nx2 _ hkp) (view_node _ _ _ _ _ _) (tags_node _ _ _ _ _ _) ⟨by omega, q2, fun U J B hB hJ => by rw [pG_open' hend hbt (by omega)]; exact q3 U J B hB⟩ (q4.to (Nat.le_refl _) (by rw [upd_off (by simp)]; exact q4.row))
      · exact .bad_mk (.mk nk ns nlo nhi nl) P' d' e (by omega) (hnew _ nx2 _ hkp) (view_node _ _ _ _ _ _) (tags_node _ _ _ _ _ _) q1 (fun U J B hB hJ => by rw [pG_open' hend hbt (by omega)]; exact q2 U J B hB) (q3.to (Nat.le_refl _) (by rw [upd_off (by simp)]; exact q3.row))
  by_cases hsg : 0 ≤ signN c.toNat
  · have hpl := sign_plain c hsg
    have hlt4 := signN_lt c.toNat
    have hconv : IntKind.u64.wrap (signN c.toNat) = signN c.toNat := IntWalk.u64_in _ (by omega)
    simp (disch := omega) only [go_sem, ↓IntWalk.iteOmega, IntWalk.toNatUp, Nat.reduceEqDiff, Nat.reduceAdd, Nat.reduceMul, Nat.reduceSub, Nat.reduceLT, Nat.reduceLeDiff, Int.reduceToNat, Int.reduceLT, Int.reduceLE, Int.reduceEq, Int.reduceAdd, Int.reduceSub, Int.reduceMul, Int.toNat_natCast, reduceCtorEq, decide_true, decide_false, IntWalk.i64_in, IntWalk.u64_in, IntWalk.u8_in, hrow, hnext, hmd, h40, hsg, hconv]
    exact .ok_mk _ (P + 1) (by omega) (hnew _ nx _ (keepR_own hkp0)) (view_leaf _ _ _ _ _) (tags_leaf _ _ _ _ _) ⟨by omega, by omega, fun U J B hB hJ => pG_plain' hend (by rw [hbt]; exact hpl) (by show (1 : Int) ≠ 0; decide)⟩ (h.to (by omega) (by simp [upd_app]))
  by_cases h46 : (c.toNat : Int) = 46
  · rw [h46] at hnext hmd hbt
    have hm46 : signN 46 = -1 := by decide
    rw [hm46] at hmd
    simp (disch := omega) only [go_sem, ↓IntWalk.iteOmega, IntWalk.toNatUp, Nat.reduceEqDiff, Nat.reduceAdd, Nat.reduceMul, Nat.reduceSub, Nat.reduceLT, Nat.reduceLeDiff, Int.reduceToNat, Int.reduceLT, Int.reduceLE, Int.reduceEq, Int.reduceAdd, Int.reduceSub, Int.reduceMul, Int.toNat_natCast, reduceCtorEq, decide_true, decide_false, IntWalk.i64_in, IntWalk.u64_in, IntWalk.u8_in, hrow, hnext, hmd]
    exact .ok_mk _ (P + 1) (by omega) (hnew _ nx _ (keepR_own hkp0)) (view_leaf _ _ _ _ _) (tags_leaf _ _ _ _ _) ⟨by omega, by omega, fun U J B hB hJ => pG_plain' hend (by rw [hbt]; rfl) (by decide)⟩ (h.to (by omega) (by simp [upd_app]))
  by_cases h48 : (c.toNat : Int) = 48
  · rw [h48] at hnext hmd hbt
    have hm48 : signN 48 = -1 := by decide
    rw [hm48] at hmd
    simp (disch := omega) only [go_sem, ↓IntWalk.iteOmega, IntWalk.toNatUp, Nat.reduceEqDiff, Nat.reduceAdd, Nat.reduceMul, Nat.reduceSub, Nat.reduceLT, Nat.reduceLeDiff, Int.reduceToNat, Int.reduceLT, Int.reduceLE, Int.reduceEq, Int.reduceAdd, Int.reduceSub, Int.reduceMul, Int.toNat_natCast, reduceCtorEq, decide_true, decide_false, IntWalk.i64_in, IntWalk.u64_in, IntWalk.u8_in, hrow, hnext, hmd]
    exact .ok_mk _ (P + 1) (by omega) (hnew _ nx _ (keepR_own hkp0)) (view_leaf _ _ _ _ _) (tags_leaf _ _ _ _ _) ⟨by omega, by omega, fun U J B hB hJ => pG_plain' hend (by rw [hbt]; rfl) (by decide)⟩ (h.to (by omega) (by simp [upd_app]))
  by_cases h95 : (c.toNat : Int) = 95
  · rw [h95] at hnext hmd hbt
    have hm95 : signN 95 = -1 := by decide
    rw [hm95] at hmd
    simp (disch := omega) only [go_sem, ↓IntWalk.iteOmega, IntWalk.toNatUp, Nat.reduceEqDiff, Nat.reduceAdd, Nat.reduceMul, Nat.reduceSub, Nat.reduceLT, Nat.reduceLeDiff, Int.reduceToNat, Int.reduceLT, Int.reduceLE, Int.reduceEq, Int.reduceAdd, Int.reduceSub, Int.reduceMul, Int.toNat_natCast, reduceCtorEq, decide_true, decide_false, IntWalk.i64_in, IntWalk.u64_in, IntWalk.u8_in, hrow, hnext, hmd]
    exact .ok_mk _ (P + 1) (by omega) (hnew _ nx _ (keepR_own hkp0)) (view_leaf _ _ _ _ _) (tags_leaf _ _ _ _ _) ⟨by omega, by omega, fun U J B hB hJ => pG_plain' hend (by rw [hbt]; rfl) (by decide)⟩ (h.to (by omega) (by simp [upd_app]))
  by_cases h91 : (c.toNat : Int) = 91
  · rw [h91] at hnext hmd hbt
    have hm91 : signN 91 = -1 := by decide
    rw [hm91] at hmd
    simp (disch := omega) only [go_sem, ↓IntWalk.iteOmega, IntWalk.toNatUp, Nat.reduceEqDiff, Nat.reduceAdd, Nat.reduceMul, Nat.reduceSub, Nat.reduceLT, Nat.reduceLeDiff, Int.reduceToNat, Int.reduceLT, Int.reduceLE, Int.reduceEq, Int.reduceAdd, Int.reduceSub, Int.reduceMul, Int.toNat_natCast, reduceCtorEq, decide_true, decide_false, IntWalk.i64_in, IntWalk.u64_in, IntWalk.u8_in, hrow, hnext, hmd, crA_cls]
    refine dcls_call (s := s) (P := P + 1) (d := d) ⟨by omega, upd_same _ _ _⟩ (by omega) (by omega) hs (fun o2 nx2 k1 k2 q hq => ?_)
    have o22 : o2 (nx, 2) = some (.row ⟨29, 1, (nx, 2), false, true, nd0⟩) := by rw [k2 nx 2 (by omega) (by simp)]; simp [upd_app]
    have hkp : KeepR r nx o o2 := (keepR_own hkp0).trans (k2.up (nx := nx) (by omega)) (Nat.le_refl _)
    have hci := class_in s (s.length - (P + 1).toNat) (P + 1) 0 (by omega) (by omega)
    have hcf := classF_in s (s.length - (P + 1).toNat) (P + 1) 0
    have hpg := fun U J B => pG_cls (U := U) (J := J) (B := B) hend hbt
    rw [← hq] at hci hcf hpg
    clear hq
    obtain ⟨q1, q2, q3⟩ := q
    refine ⟨fun hq2 hR => ?_, fun hq2 hR => ?_⟩
    · have hq2 : q2 = true := hq2
      have h4 := hci.2.2 hq2
      have h5 : q3 < P + 1 + (s.length - (P + 1).toNat : Nat) := h4.2
      have h6 : P + 1 ≤ q3 := hcf.1
      simp (disch := omega) only [go_sem, ↓IntWalk.iteOmega, IntWalk.toNatUp, Nat.reduceEqDiff, Nat.reduceAdd, Nat.reduceMul, Nat.reduceSub, Nat.reduceLT, Nat.reduceLeDiff, Int.reduceToNat, Int.reduceLT, Int.reduceLE, Int.reduceEq, Int.reduceAdd, Int.reduceSub, Int.reduceMul, Int.toNat_natCast, reduceCtorEq, decide_true, decide_false, IntWalk.i64_in, IntWalk.u64_in, IntWalk.u8_in, o22]
      exact .ok_mk (.mk 1 q1 0 0 []) (q3 + 1) (by omega) (hnew _ nx2 _ hkp) (view_node _ _ _ _ _ _) (tags_node _ _ _ _ _ _) ⟨by omega, by omega, fun U J B hB hJ => by rw [hpg, if_neg (by rw [hq2]; simp)]⟩ (hR.to (Nat.le_refl _) (by rw [upd_off (by simp)]; exact hR.row))
    · have hq2 : q2 = false := hq2
      simp (disch := omega) only [go_sem, ↓IntWalk.iteOmega, IntWalk.toNatUp, Nat.reduceEqDiff, Nat.reduceAdd, Nat.reduceMul, Nat.reduceSub, Nat.reduceLT, Nat.reduceLeDiff, Int.reduceToNat, Int.reduceLT, Int.reduceLE, Int.reduceEq, Int.reduceAdd, Int.reduceSub, Int.reduceMul, Int.toNat_natCast, reduceCtorEq, decide_true, decide_false, IntWalk.i64_in, IntWalk.u64_in, IntWalk.u8_in, o22]
      exact .bad_mk zeroN q3 d 3 (by omega) (hnew _ nx2 _ hkp) (view_node _ _ _ _ _ _) (tags_node _ _ _ _ _ _) (by decide) (fun U J B hB hJ => by rw [hpg, if_pos hq2]) (hR.to (Nat.le_refl _) (by rw [upd_off (by simp)]; exact hR.row))
  have hpl : kindN (plainN c.toNat) = 0 := sign_none c (by omega) h46 h48 h95
  simp (disch := omega) only [go_sem, ↓IntWalk.iteOmega, IntWalk.toNatUp, Nat.reduceEqDiff, Nat.reduceAdd, Nat.reduceMul, Nat.reduceSub, Nat.reduceLT, Nat.reduceLeDiff, Int.reduceToNat, Int.reduceLT, Int.reduceLE, Int.reduceEq, Int.reduceAdd, Int.reduceSub, Int.reduceMul, Int.toNat_natCast, reduceCtorEq, decide_true, decide_false, IntWalk.i64_in, IntWalk.u64_in, IntWalk.u8_in, hrow, hnext, hmd, h40, hsg, h46, h48, h95, h91, crA_fail]
  have eP : P + 1 - 1 = P := by omega
  refine fail_call (P := P) (d := d) (e := 0) (s := s) ⟨by omega, by simp [upd_app, eP]⟩ (fun o2 nx2 k1 k2 k3 => ?_)
  have o22 : o2 (nx, 2) = some (.row ⟨29, 1, (nx, 2), false, true, nd0⟩) := by rw [k2 nx 2 (by omega) (by simp)]; simp [upd_app]
  simp (disch := omega) only [go_sem, ↓IntWalk.iteOmega, IntWalk.toNatUp, Nat.reduceEqDiff, Nat.reduceAdd, Nat.reduceMul, Nat.reduceSub, Nat.reduceLT, Nat.reduceLeDiff, Int.reduceToNat, Int.reduceLT, Int.reduceLE, Int.reduceEq, Int.reduceAdd, Int.reduceSub, Int.reduceMul, Int.toNat_natCast, reduceCtorEq, decide_true, decide_false, IntWalk.i64_in, IntWalk.u64_in, IntWalk.u8_in, o22]
  exact .bad_mk zeroN P d 3 (by omega) (hnew _ nx2 _ ((keepR_own (keepR_own hkp0)).trans (k2.up (nx := nx) (by omega)) (Nat.le_refl _))) (view_node _ _ _ _ _ _) (tags_node _ _ _ _ _ _) (by decide) (fun U J B hB hJ => pG_none hend (by rw [hbt]; exact hpl) (by rw [hbt]; exact h91) (by rw [hbt]; exact h40) hJ) (k3.to (Nat.le_refl _) (by rw [upd_off (by simp)]; exact k3.row))
end Go.Proofs.YtmcbfbpdfbcakaaDoor.A
/- The document's reader: piece. -/
namespace Go.Proofs.YtmcbfbpdfbcakaaDoor.A
open Go
set_option maxRecDepth 20000
theorem lookPiece (X) : lookedAt (EX md0 X) (fun _ => none) 1 Tryd.f57 = true := by kernel_rfl
noncomputable def crPc : CallR := tabLookR [(63, cRel (RRd 63 spA)), (64, cDTms)]
theorem crPc_ok : CRSound Tryd.prog crPc ∧ Up crPc := tabR_cons (tabR_cons (tabR_nil _) cDTms_ok) fun args H v H' h => (cRel_some h).1
theorem crPc_atom : crPc 63 = cRel (RRd 63 spA) := rfl
theorem crPc_times : crPc 64 = cDTms := rfl
theorem pG_post' {s : List UInt8} {P : Int} {U J n} {B : Lvs} {c k : Int} (h : ¬ (s.length : Int) ≤ P) (hb : byteN s P = c) (hc : (c = 42 ∧ k = 6) ∨ (c = 43 ∧ k = 7) ∨ (c = 63 ∧ k = 8)) : pG s P U (J ++ [n]) B = pG s (P + 1) U (J ++ [.mk k 0 0 0 [n]]) B := by
  rw [pG_eq, if_neg h, hb]
  rcases hc with ⟨rfl, rfl⟩ | ⟨rfl, rfl⟩ | ⟨rfl, rfl⟩ <;>
  rw [if_neg (by decide), if_neg (by decide), if_neg (by decide), if_neg (by simp), if_neg (by decide), if_pos (by decide), last_snoc] <;> rfl
theorem pG_times' {s : List UInt8} {P : Int} {U J n} {B : Lvs} (h : ¬ (s.length : Int) ≤ P) (hb : byteN s P = 123) : pG s P U (J ++ [n]) B = if 0 ≤ (timesN s P).2.2 then (zeroN, (timesN s P).2.2, 3) else pG s (P + 5) U (J ++ [.mk 9 0 (timesN s P).1 (timesN s P).2.1 [n]]) B := by
  rw [pG_eq, if_neg h, hb, if_neg (by decide), if_neg (by decide), if_neg (by decide), if_neg (by simp), if_pos (by decide)]
  simp only [last_snoc]
/-- Where a piece stands: it is read so far, or an error was met. -/
def PcAt (s : List UInt8) (P d x d' e : Int) (D : Nat) (n : Nd) : Prop :=
  (e = 0 ∧ d' = d ∧ P < x ∧ x ≤ s.length ∧ (D : Int) ≤ x - P ∧ ∀ U J (B : Lvs), (B.length : Int) = d → PreJ s P J → pG s P U J B = pG s x U (J ++ [n]) B) ∨
  (e ≠ 0 ∧ D ≤ 300 ∧ ∀ U J (B : Lvs), (B.length : Int) = d → PreJ s P J → pG s P U J B = (zeroN, x, e))
theorem RdPost.w_mk {r : Nat} {s : List UInt8} {d : Int} {ok : Nd → Int → Prop} {bad : Int → Int → Prop} {o : Ob} {nx D : Nat} {cs : List AV} {n : Nd} {o' : Ob} {nx' : Nat} (hw : WNd o' nx nx' D cs n) (hD : D ≤ 1000) (hn : nx ≤ nx') (hk : KeepR r nx o o') (hR : (∃ P', ok n P' ∧ Rdr o' nx' r s P' d 0) ∨ (∃ P' d' e, e ≠ 0 ∧ bad P' e ∧ Rdr o' nx' r s P' d' e)) : RdPost r s d ok bad o nx (.agg cs) o' nx' :=
  ⟨hn, hk, fun q hq => (hw.tags 1011 q hq).1, n, by show AV.agg (cs.map (A.view o' 1011)) = _; rw [hw.view 1011 (by omega)], hR⟩
set_option maxHeartbeats 4000000 in
theorem piece_can {s : List UInt8} (hs : s.length ≤ 200) {m : Int} (hA : Can 63 spA s m 30) : Can 57 spP s m 30 := by
  intro r nx o P d hm hP0 hP1 hd0 hd1 h
  refine rd_make (E := EX md0 XRd) rfl XRd_ok crPc_ok mixed (k := 1000) Tryd.func57 (lookPiece _) rfl h ?_
  have hrow := h.row
  have hlt0 := h.lt
  simp only [Tryd.f57, Option.getD_some]
  simp (disch := omega) only [go_sem, ↓IntWalk.iteOmega, IntWalk.toNatUp, Nat.reduceEqDiff, Nat.reduceAdd, Nat.reduceMul, Nat.reduceSub, Nat.reduceLT, Nat.reduceLeDiff, Int.reduceToNat, Int.reduceLT, Int.reduceLE, Int.reduceEq, Int.reduceAdd, Int.reduceSub, Int.reduceMul, Int.toNat_natCast, reduceCtorEq, decide_true, decide_false, IntWalk.i64_in, IntWalk.u64_in, IntWalk.u8_in, hrow, crPc_atom]
  refine rd_call (s := s) (P := P) (d := d) (hA _ _ _ P d hm hP0 hP1 hd0 hd1 ⟨by omega, by simp [upd_app, hrow]⟩) ⟨by omega, by simp [upd_app, hrow]⟩ (fun n o1 nx1 k1 k2 k3 => ?_)
  have o12 : o1 (nx, 2) = some (.row ⟨29, 1, (nx, 2), false, true, nd0⟩) := by rw [k2 nx 2 (by omega) (by simp)]; simp [upd_app]
  simp (disch := omega) only [go_sem, ↓IntWalk.iteOmega, IntWalk.toNatUp, Nat.reduceEqDiff, Nat.reduceAdd, Nat.reduceMul, Nat.reduceSub, Nat.reduceLT, Nat.reduceLeDiff, Int.reduceToNat, Int.reduceLT, Int.reduceLE, Int.reduceEq, Int.reduceAdd, Int.reduceSub, Int.reduceMul, Int.toNat_natCast, reduceCtorEq, decide_true, decide_false, IntWalk.i64_in, IntWalk.u64_in, IntWalk.u8_in, o12]
  have k4 : ∃ x d' e, Rdr o1 nx1 r s x d' e ∧ PcAt s P d x d' e 0 n ∧ (0 ≤ x ∨ e ≠ 0) := by
    rcases k3 with ⟨P', ⟨q1, q2, q3⟩, q4⟩ | ⟨P', d', e, q1, q2, q3⟩
    · exact ⟨P', d, 0, q4, .inl ⟨rfl, rfl, q1, q2, by omega, q3⟩, by omega⟩
    · exact ⟨P', d', e, q3, .inr ⟨q1, by omega, q2⟩, .inr q1⟩
  clear k3
  obtain ⟨x, d', e, k5, k6, k7⟩ := k4
  refine WP_loop (fun m a o2 nx2 => ∃ (x d' e : Int) (D : Nat) (n : Nd) (cs : List AV), m = (if e = 0 then s.length - x.toNat + 1 else 0) ∧ nx + 2 ≤ nx2 ∧ a 0 = rdP r ∧ a 2 = .ptr (nx, 2) (nx, 2) 0 ∧ a 3 = .ptr (nx + 1, 3) (nx + 1, 3) 0 ∧ Rdr o2 nx2 r s x d' e ∧ KeepR r nx o o2 ∧ o2 (nx, 2) = some (.row ⟨29, 1, (nx, 2), false, true, nd0⟩) ∧ o2 (nx + 1, 3) = some (.row ⟨29, 1, (nx + 1, 3), false, true, cs⟩) ∧ WNd o2 nx nx2 D cs n ∧ PcAt s P d x d' e D n ∧ (0 ≤ x ∨ e ≠ 0)) (if e = 0 then s.length - x.toNat + 1 else 0) (by split <;> omega) ?_ ?_
  · exact ⟨x, d', e, 0, n, cNd n, rfl, by omega, by simp (disch := omega) only [go_sem, ↓IntWalk.iteOmega, IntWalk.toNatUp, Nat.reduceEqDiff, Nat.reduceAdd, Nat.reduceMul, Nat.reduceSub, Nat.reduceLT, Nat.reduceLeDiff, Int.reduceToNat, Int.reduceLT, Int.reduceLE, Int.reduceEq, Int.reduceAdd, Int.reduceSub, Int.reduceMul, Int.toNat_natCast, reduceCtorEq, decide_true, decide_false, IntWalk.i64_in, IntWalk.u64_in, IntWalk.u8_in], by simp (disch := omega) only [go_sem, ↓IntWalk.iteOmega, IntWalk.toNatUp, Nat.reduceEqDiff, Nat.reduceAdd, Nat.reduceMul, Nat.reduceSub, Nat.reduceLT, Nat.reduceLeDiff, Int.reduceToNat, Int.reduceLT, Int.reduceLE, Int.reduceEq, Int.reduceAdd, Int.reduceSub, Int.reduceMul, Int.toNat_natCast, reduceCtorEq, decide_true, decide_false, IntWalk.i64_in, IntWalk.u64_in, IntWalk.u8_in], by simp (disch := omega) only [go_sem, ↓IntWalk.iteOmega, IntWalk.toNatUp, Nat.reduceEqDiff, Nat.reduceAdd, Nat.reduceMul, Nat.reduceSub, Nat.reduceLT, Nat.reduceLeDiff, Int.reduceToNat, Int.reduceLT, Int.reduceLE, Int.reduceEq, Int.reduceAdd, Int.reduceSub, Int.reduceMul, Int.toNat_natCast, reduceCtorEq, decide_true, decide_false, IntWalk.i64_in, IntWalk.u64_in, IntWalk.u8_in], k5.to (by omega) (by simp [upd_app, k5.row]), keepR_new (keepR_new ((keepR_new (KeepR.refl _ _ _) (Nat.le_refl _)).trans (k2.up (nx := nx) (by omega)) (Nat.le_refl _)) (by omega)) (by omega), by simp [upd_app, o12], by simp [upd_app], .data 0 n, k6, k7⟩
  clear k1 k2 k5 k6 k7 o12 hrow
  rintro m a o2 nx2 ⟨x, d', e, D, n, cs, rfl, hnx, a0, a2, a3, hS, hkp, o22, o23, hW, hPc, hx0⟩
  have h2 := hS.row
  have hrlt := hS.lt
  have hnext := XRd_next s x d' e hx0
  have hc5 := hW.length
  have hcok := hW.ok
  have hctk : cs.take 5 = cs := take_len hc5
  have hdr5 : cs.drop 5 = [] := List.drop_of_length_le (by omega)
  have hWk : ∀ (o3 : Ob) (nx3 : Nat), nx2 ≤ nx3 → (∀ i j, i < nx2 → (i, j) ≠ (nx, 2) → (i, j) ≠ (nx + 1, 3) → (i, j) ≠ (r, 13) → o3 (i, j) = o2 (i, j)) → WNd o3 nx nx3 D cs n := fun o3 nx3 g1 g2 => hW.keep g1 (fun i j q1 q2 q3 => g2 i j q2 (by intro e; cases e; omega) (by intro e; cases e; omega) (by intro e; cases e; omega))
  have hstop : ∀ (o3 : Ob) (nx3 : Nat), nx2 ≤ nx3 → o3 = upd o2 (nx, 2) (.row ⟨29, 1, (nx, 2), false, true, cs⟩) → ((s.length : Int) ≤ x ∨ e ≠ 0 ∨ afterN (byteN s x) = 0) → RdPost r s d (spP.ok s P d) (spP.bad s P d) o nx (.agg cs) o3 nx3 := fun o3 nx3 g1 g2 g3 => by
    have hD : D ≤ 1000 := by rcases hPc with ⟨_, _, _, _, g, _⟩ | ⟨_, g, _⟩ <;> omega
    refine .w_mk (hWk o3 nx3 g1 (fun i j q1 q2 q3 q4 => by rw [g2, upd_off q2])) hD (by omega) (by rw [g2]; exact keepR_new hkp (Nat.le_refl _)) ?_
    have hR : Rdr o3 nx3 r s x d' e := hS.to g1 (by rw [g2, upd_off (by simp)]; exact h2)
    rcases hPc with ⟨rfl, rfl, p1, p2, p3, p4⟩ | ⟨p1, p2, p3⟩
    · exact .inl ⟨x, ⟨p1, p2, by rcases g3 with g3 | g3 | g3 <;> simp_all, p4⟩, hR⟩
    · exact .inr ⟨x, d', e, p1, p3, hR⟩
  by_cases hst : (s.length : Int) ≤ x ∨ e ≠ 0
  · rw [next_end hst] at hnext
    simp (disch := omega) only [go_sem, ↓IntWalk.iteOmega, IntWalk.toNatUp, Nat.reduceEqDiff, Nat.reduceAdd, Nat.reduceMul, Nat.reduceSub, Nat.reduceLT, Nat.reduceLeDiff, Int.reduceToNat, Int.reduceLT, Int.reduceLE, Int.reduceEq, Int.reduceAdd, Int.reduceSub, Int.reduceMul, Int.toNat_natCast, reduceCtorEq, decide_true, decide_false, IntWalk.i64_in, IntWalk.u64_in, IntWalk.u8_in, a0, a2, a3, h2, hnext, o22, o23, hc5, hctk, hcok, hdr5]
    exact hstop _ _ (by omega) rfl (by rcases hst with g | g; exact .inl g; exact .inr (.inl g))
  have he : e = 0 := Classical.not_not.1 (fun g => hst (.inr g))
  have hend : ¬ (s.length : Int) ≤ x := fun g => hst (.inl g)
  subst he
  obtain ⟨_, rfl, p1, p2, p3, p4⟩ : 0 = (0 : Int) ∧ d' = d ∧ P < x ∧ x ≤ s.length ∧ (D : Int) ≤ x - P ∧ ∀ U J (B : Lvs), (B.length : Int) = d → PreJ s P J → pG s P U J B = pG s x U (J ++ [n]) B := by
    rcases hPc with g | g
    · exact g
    · exact absurd rfl g.1
  obtain ⟨c, hc, hbt⟩ := byte_at (a := x) (by omega) hend
  rw [next_at hend, hbt] at hnext
  rw [if_pos rfl]
  by_cases h42 : (c.toNat : Int) = 42
  · rw [h42] at hnext hbt
    simp (disch := omega) only [go_sem, ↓IntWalk.iteOmega, IntWalk.toNatUp, Nat.reduceEqDiff, Nat.reduceAdd, Nat.reduceMul, Nat.reduceSub, Nat.reduceLT, Nat.reduceLeDiff, Int.reduceToNat, Int.reduceLT, Int.reduceLE, Int.reduceEq, Int.reduceAdd, Int.reduceSub, Int.reduceMul, Int.toNat_natCast, reduceCtorEq, decide_true, decide_false, IntWalk.i64_in, IntWalk.u64_in, IntWalk.u8_in, a0, a2, a3, h2, hnext, o22, o23, hc5, hctk, hcok, hdr5]
    refine ⟨_, ?_, x + 1, d', 0, D + 1, .mk 6 0 0 0 [n], _, rfl, by omega, hS.to (by omega) (upd_same _ _ _), keepR_own (keepR_new (keepR_new hkp (by omega)) (by omega)), rfl, .beh D _ 21 _ _ 6 n cs (by omega) (by omega) (.inl rfl) (by rw [upd_off (by simp), upd_off (by simp), upd_same]) (hWk _ _ (by omega) (fun i j q1 q2 q3 q4 => by rw [upd_off q4, upd_off q3, upd_off (by intro e; cases e; omega)])), .inl ⟨rfl, rfl, by omega, by omega, by omega, fun U J B hB hJ => by rw [p4 U J B hB hJ, pG_post' hend hbt (.inl ⟨rfl, rfl⟩)]⟩, by omega⟩
    rw [if_pos rfl]; omega
  by_cases h43 : (c.toNat : Int) = 43
  · rw [h43] at hnext hbt
    simp (disch := omega) only [go_sem, ↓IntWalk.iteOmega, IntWalk.toNatUp, Nat.reduceEqDiff, Nat.reduceAdd, Nat.reduceMul, Nat.reduceSub, Nat.reduceLT, Nat.reduceLeDiff, Int.reduceToNat, Int.reduceLT, Int.reduceLE, Int.reduceEq, Int.reduceAdd, Int.reduceSub, Int.reduceMul, Int.toNat_natCast, reduceCtorEq, decide_true, decide_false, IntWalk.i64_in, IntWalk.u64_in, IntWalk.u8_in, a0, a2, a3, h2, hnext, o22, o23, hc5, hctk, hcok, hdr5]
    refine ⟨_, ?_, x + 1, d', 0, D + 1, .mk 7 0 0 0 [n], _, rfl, by omega, hS.to (by omega) (upd_same _ _ _), keepR_own (keepR_new (keepR_new hkp (by omega)) (by omega)), rfl, .beh D _ 26 _ _ 7 n cs (by omega) (by omega) (.inr (.inl rfl)) (by rw [upd_off (by simp), upd_off (by simp), upd_same]) (hWk _ _ (by omega) (fun i j q1 q2 q3 q4 => by rw [upd_off q4, upd_off q3, upd_off (by intro e; cases e; omega)])), .inl ⟨rfl, rfl, by omega, by omega, by omega, fun U J B hB hJ => by rw [p4 U J B hB hJ, pG_post' hend hbt (.inr (.inl ⟨rfl, rfl⟩))]⟩, by omega⟩
    rw [if_pos rfl]; omega
  by_cases h63 : (c.toNat : Int) = 63
  · rw [h63] at hnext hbt
    simp (disch := omega) only [go_sem, ↓IntWalk.iteOmega, IntWalk.toNatUp, Nat.reduceEqDiff, Nat.reduceAdd, Nat.reduceMul, Nat.reduceSub, Nat.reduceLT, Nat.reduceLeDiff, Int.reduceToNat, Int.reduceLT, Int.reduceLE, Int.reduceEq, Int.reduceAdd, Int.reduceSub, Int.reduceMul, Int.toNat_natCast, reduceCtorEq, decide_true, decide_false, IntWalk.i64_in, IntWalk.u64_in, IntWalk.u8_in, a0, a2, a3, h2, hnext, o22, o23, hc5, hctk, hcok, hdr5]
    refine ⟨_, ?_, x + 1, d', 0, D + 1, .mk 8 0 0 0 [n], _, rfl, by omega, hS.to (by omega) (upd_same _ _ _), keepR_own (keepR_new (keepR_new hkp (by omega)) (by omega)), rfl, .beh D _ 31 _ _ 8 n cs (by omega) (by omega) (.inr (.inr rfl)) (by rw [upd_off (by simp), upd_off (by simp), upd_same]) (hWk _ _ (by omega) (fun i j q1 q2 q3 q4 => by rw [upd_off q4, upd_off q3, upd_off (by intro e; cases e; omega)])), .inl ⟨rfl, rfl, by omega, by omega, by omega, fun U J B hB hJ => by rw [p4 U J B hB hJ, pG_post' hend hbt (.inr (.inr ⟨rfl, rfl⟩))]⟩, by omega⟩
    rw [if_pos rfl]; omega
  by_cases h123 : (c.toNat : Int) = 123
  · rw [h123] at hnext hbt
    simp (disch := omega) only [go_sem, ↓IntWalk.iteOmega, IntWalk.toNatUp, Nat.reduceEqDiff, Nat.reduceAdd, Nat.reduceMul, Nat.reduceSub, Nat.reduceLT, Nat.reduceLeDiff, Int.reduceToNat, Int.reduceLT, Int.reduceLE, Int.reduceEq, Int.reduceAdd, Int.reduceSub, Int.reduceMul, Int.toNat_natCast, reduceCtorEq, decide_true, decide_false, IntWalk.i64_in, IntWalk.u64_in, IntWalk.u8_in, a0, a2, a3, h2, hnext, o22, o23, hc5, hctk, hcok, hdr5, crPc_times]
    refine dtms_call (s := s) (at_ := x) (d := d') (b := nx) (D := D) (n := n) ⟨by omega, upd_same _ _ _⟩ (by omega) (by omega) hs (hWk _ _ (by omega) (fun i j q1 q2 q3 q4 => upd_off q4)) (by omega) (by omega) (fun o3 nx3 g1 g2 T hT => ?_)
    have o32 : o3 (nx, 2) = some (.row ⟨29, 1, (nx, 2), false, true, nd0⟩) := by rw [g2 nx 2 (by omega) (by simp) (by omega), upd_off (by simp)]; exact o22
    have o33 : o3 (nx + 1, 3) = some (.row ⟨29, 1, (nx + 1, 3), false, true, cs⟩) := by rw [g2 (nx + 1) 3 (by omega) (by simp) (by omega), upd_off (by simp)]; exact o23
    have hk3 : KeepR r nx o o3 := fun i k q1 q2 => by rw [g2 i k (by omega) q2 (by omega), upd_off q2]; exact hkp i k q1 q2
    have htm := fun U J B => pG_times' (U := U) (J := J) (n := n) (B := B) hend hbt
    have hti := times_in s x (by omega)
    rw [← hT] at htm hti
    clear hT g2
    obtain ⟨T1, T2, T3⟩ := T
    refine ⟨fun hT0 hR => ?_, fun hT0 hR => ?_⟩
    · have hT0 : 0 ≤ T3 := hT0
      simp (disch := omega) only [go_sem, ↓IntWalk.iteOmega, IntWalk.toNatUp, Nat.reduceEqDiff, Nat.reduceAdd, Nat.reduceMul, Nat.reduceSub, Nat.reduceLT, Nat.reduceLeDiff, Int.reduceToNat, Int.reduceLT, Int.reduceLE, Int.reduceEq, Int.reduceAdd, Int.reduceSub, Int.reduceMul, Int.toNat_natCast, reduceCtorEq, decide_true, decide_false, IntWalk.i64_in, IntWalk.u64_in, IntWalk.u8_in, a0, a2, a3, o32, o33, hc5, hdr5]
      refine ⟨_, ?_, T3, d', 3, 0, zeroN, cNd zeroN, rfl, by omega, hR.to (Nat.le_refl _) (by rw [upd_off (by simp)]; exact hR.row), keepR_new hk3 (by omega), by rw [cNd_mk], .data 0 zeroN, .inr ⟨by decide, by omega, fun U J B hB hJ => by rw [p4 U J B hB hJ, htm, if_pos hT0]⟩, .inl hT0⟩
      rw [if_neg (by decide)]; omega
    · have hT0 : ¬ 0 ≤ T3 := hT0
      have h5 := hti hT0
      simp (disch := omega) only [go_sem, ↓IntWalk.iteOmega, IntWalk.toNatUp, Nat.reduceEqDiff, Nat.reduceAdd, Nat.reduceMul, Nat.reduceSub, Nat.reduceLT, Nat.reduceLeDiff, Int.reduceToNat, Int.reduceLT, Int.reduceLE, Int.reduceEq, Int.reduceAdd, Int.reduceSub, Int.reduceMul, Int.toNat_natCast, reduceCtorEq, decide_true, decide_false, IntWalk.i64_in, IntWalk.u64_in, IntWalk.u8_in, a0, a2, a3, o32, o33, hc5, hdr5]
      refine ⟨_, ?_, x + 5, d', 0, 0, .mk 9 0 T1 T2 [n], cNd (.mk 9 0 T1 T2 [n]), rfl, by omega, hR.to (Nat.le_refl _) (by rw [upd_off (by simp)]; exact hR.row), keepR_new hk3 (by omega), by rw [cNd_mk], .data 0 _, .inl ⟨rfl, rfl, by omega, h5.2.2.2, by omega, fun U J B hB hJ => by rw [p4 U J B hB hJ, htm, if_neg hT0]⟩, by omega⟩
      rw [if_pos rfl]; omega
  have haf : afterN (byteN s x) = 0 := by
    rw [hbt]
    unfold afterN
    rw [if_neg h42, if_neg h43, if_neg h63, if_neg h123]
  simp (disch := omega) only [go_sem, ↓IntWalk.iteOmega, IntWalk.toNatUp, Nat.reduceEqDiff, Nat.reduceAdd, Nat.reduceMul, Nat.reduceSub, Nat.reduceLT, Nat.reduceLeDiff, Int.reduceToNat, Int.reduceLT, Int.reduceLE, Int.reduceEq, Int.reduceAdd, Int.reduceSub, Int.reduceMul, Int.toNat_natCast, reduceCtorEq, decide_true, decide_false, IntWalk.i64_in, IntWalk.u64_in, IntWalk.u8_in, a0, a2, a3, h2, hnext, o22, o23, hc5, hctk, hcok, hdr5, h42, h43, h63, h123]
  exact hstop _ _ (by omega) rfl (.inr (.inr haf))
end Go.Proofs.YtmcbfbpdfbcakaaDoor.A
/- The document's reader: join, union, group. -/
namespace Go.Proofs.YtmcbfbpdfbcakaaDoor.A
open Go
set_option maxRecDepth 20000
theorem view_ref_node {o : Ob} {i j : Nat} {g : Tag} {ro : Bool} {k : Int} {l : List Nd} (h : o (i, j) = some (.row ⟨29, 5, g, ro, true, cNds l⟩)) : A.view o vDepth (.agg [.int .i64 k, .int .i64 0, .int .i64 0, .int .i64 0, .ref (i, j) g 0 l.length]) = nodeV (.mk k 0 0 0 l) := by
  have hl := cNds_length l
  have htk : (cNds l).take (l.length * 5) = cNds l := take_len hl
  rw [nodeV, cNd_mk, slN]
  simp (disch := omega) only [go_sem, ↓IntWalk.iteOmega, IntWalk.toNatUp, Nat.reduceEqDiff, Nat.reduceAdd, Nat.reduceMul, Nat.reduceSub, Nat.reduceLT, Nat.reduceLeDiff, Int.reduceToNat, Int.reduceLT, Int.reduceLE, Int.reduceEq, Int.reduceAdd, Int.reduceSub, Int.reduceMul, Int.toNat_natCast, reduceCtorEq, decide_true, decide_false, IntWalk.i64_in, IntWalk.u64_in, IntWalk.u8_in, h, hl, htk]
theorem tags_ref_node {o : Ob} {i j : Nat} {g : Tag} {ro : Bool} {k : Int} {l : List Nd} (h : o (i, j) = some (.row ⟨29, 5, g, ro, true, cNds l⟩)) : viewTags o vDepth (.agg [.int .i64 k, .int .i64 0, .int .i64 0, .int .i64 0, .ref (i, j) g 0 l.length]) = [(i, j)] := by
  have hl := cNds_length l
  have htk : (cNds l).take (l.length * 5) = cNds l := take_len hl
  simp (disch := omega) only [go_sem, ↓IntWalk.iteOmega, IntWalk.toNatUp, Nat.reduceEqDiff, Nat.reduceAdd, Nat.reduceMul, Nat.reduceSub, Nat.reduceLT, Nat.reduceLeDiff, Int.reduceToNat, Int.reduceLT, Int.reduceLE, Int.reduceEq, Int.reduceAdd, Int.reduceSub, Int.reduceMul, Int.toNat_natCast, reduceCtorEq, decide_true, decide_false, IntWalk.i64_in, IntWalk.u64_in, IntWalk.u8_in, h, hl, htk]
theorem RdPost.ref_mk {r : Nat} {s : List UInt8} {d : Int} {ok : Nd → Int → Prop} {bad : Int → Int → Prop} {o : Ob} {nx : Nat} {k : Int} {i j : Nat} {g : Tag} {ro : Bool} {l : List Nd} {o' : Ob} {nx' : Nat} (h : o' (i, j) = some (.row ⟨29, 5, g, ro, true, cNds l⟩)) (hi : nx ≤ i) (hn : nx ≤ nx') (hk : KeepR r nx o o') (hR : (∃ P', ok (.mk k 0 0 0 l) P' ∧ Rdr o' nx' r s P' d 0) ∨ (∃ P' d' e, e ≠ 0 ∧ bad P' e ∧ Rdr o' nx' r s P' d' e)) :
    RdPost r s d ok bad o nx (.agg [.int .i64 k, .int .i64 0, .int .i64 0, .int .i64 0, .ref (i, j) g 0 l.length]) o' nx' :=
  ⟨hn, hk, fun q hq => (by rw [tags_ref_node h, List.mem_singleton] at hq; rw [hq]; exact hi), _, view_ref_node h, hR⟩
/-! ### join -/
theorem lookJoin (X) : lookedAt (EX md0 X) (fun _ => none) 1 Tryd.f51 = true := by kernel_rfl
noncomputable def crJ : CallR := tabLookR [(57, cRel (RRd 57 spP))]
theorem crJ_ok : CRSound Tryd.prog crJ ∧ Up crJ := tabR_cons (tabR_nil _) fun args H v H' h => (cRel_some h).1
theorem crJ_piece : crJ 57 = cRel (RRd 57 spP) := rfl
def JnAt (s : List UInt8) (P d x d' e : Int) (l : List Nd) : Prop :=
  (e = 0 ∧ d' = d ∧ P < x ∧ x ≤ s.length ∧ (l.length : Int) ≤ x - P ∧ ((s.length : Int) ≤ x ∨ afterN (byteN s x) = 0) ∧ ∀ U (B : Lvs), (B.length : Int) = d → pG s P U [] B = pG s x U l B) ∨
  (e ≠ 0 ∧ l.length ≤ 300 ∧ ∀ U (B : Lvs), (B.length : Int) = d → pG s P U [] B = (zeroN, x, e))
theorem many_mk {k : Int} {l : List Nd} (h : 1 < l.length) : manyN k l = .mk k 0 0 0 l := by
  match l, h with
  | x :: y :: l, _ => rfl
noncomputable def bJ : Code := Tryd.f51.body.getD .skip
noncomputable def tJ : Code := pathC [1, 1, 1] bJ
theorem bJ_seq : bJ = .seq (pathC [0] bJ) (.seq (pathC [1, 0] bJ) (.seq (pathC [1, 1, 0] bJ) tJ)) := by kernel_rfl
abbrev finJ (r : Nat) (s : List UInt8) (P d : Int) (o : Ob) (nx : Nat) : WPost := fun u a o' nx' => (u = .normal ∨ u = .ret) ∧ wO (resultsL Tryd.prog a ⟨o', nx'⟩ Tryd.f51.results.toList) (fun vs => RdPost r s d (spJ.ok s P d) (spJ.bad s P d) o nx (tup1 vs) o' nx')
/-- Behind the loop. -/
theorem join_tail {s : List UInt8} {r nx p : Nat} {P d : Int} {o o3 : Ob} {nx3 : Nat} {g : Tag} {l : List Nd} {a : AAct} (hn : nx + 1 ≤ nx3) (hne : l ≠ []) (hll : l.length ≤ 300) (hp1 : nx ≤ p) (hkp : KeepR r nx o o3) (a2 : a 2 = .ptr (nx, 2) (nx, 2) 0) (a3 : a 3 = .ref (p, 8) g 0 l.length)
    (o22 : o3 (nx, 2) = some (.row ⟨29, 1, (nx, 2), false, true, nd0⟩)) (o28 : o3 (p, 8) = some (.row ⟨29, 5, g, false, true, cNds l⟩))
    (hR : ∀ (o4 : Ob) (nx4 : Nat), nx3 ≤ nx4 → o4 (r, 13) = o3 (r, 13) → (∃ P', spJ.ok s P d (manyN 4 l) P' ∧ Rdr o4 nx4 r s P' d 0) ∨ (∃ P' d' e, e ≠ 0 ∧ spJ.bad s P d P' e ∧ Rdr o4 nx4 r s P' d' e)) :
    WP (EX md0 XRd) crJ 1000 (fun _ => none) tJ a o3 nx3 (finJ r s P d o nx) := by
  have htk : (cNds l).take (l.length * 5) = cNds l := take_len (cNds_length l)
  have hcl := cNds_length l
  have hlp : l.length ≠ 0 := fun h' => hne (List.length_eq_zero_iff.1 h')
  simp only [tJ, bJ, Tryd.f51, Option.getD_some, pathC]
  by_cases h1 : l.length = 1
  · obtain ⟨y, rfl⟩ : ∃ y, l = [y] := List.length_eq_one_iff.1 h1
    have hy : cNds [y] = cNd y ++ [] := by rw [cNds_one, List.append_nil]
    rw [hy] at o28
    simp (disch := omega) only [go_sem, ↓IntWalk.iteOmega, IntWalk.toNatUp, Nat.reduceEqDiff, Nat.reduceAdd, Nat.reduceMul, Nat.reduceSub, Nat.reduceLT, Nat.reduceLeDiff, Int.reduceToNat, Int.reduceLT, Int.reduceLE, Int.reduceEq, Int.reduceAdd, Int.reduceSub, Int.reduceMul, Int.toNat_natCast, reduceCtorEq, decide_true, decide_false, IntWalk.i64_in, IntWalk.u64_in, IntWalk.u8_in, a2, a3, o22, o28]
    exact ⟨.inr rfl, by
      simp only [Tryd.f51]
      simp (disch := omega) only [go_sem, ↓IntWalk.iteOmega, IntWalk.toNatUp, Nat.reduceEqDiff, Nat.reduceAdd, Nat.reduceMul, Nat.reduceSub, Nat.reduceLT, Nat.reduceLeDiff, Int.reduceToNat, Int.reduceLT, Int.reduceLE, Int.reduceEq, Int.reduceAdd, Int.reduceSub, Int.reduceMul, Int.toNat_natCast, reduceCtorEq, decide_true, decide_false, IntWalk.i64_in, IntWalk.u64_in, IntWalk.u8_in, a2]
      exact ⟨by omega, keepR_new hkp (Nat.le_refl _), fun q hq => (by rw [tags_agg_cNd] at hq; cases hq), y, view_agg_cNd _ _, hR _ _ (by omega) (upd_off (by simp))⟩⟩
  · have h1' : ¬ (l.length : Int) = 1 := by omega
    rw [many_mk (by omega)] at hR
    simp (disch := omega) only [go_sem, ↓IntWalk.iteOmega, IntWalk.toNatUp, Nat.reduceEqDiff, Nat.reduceAdd, Nat.reduceMul, Nat.reduceSub, Nat.reduceLT, Nat.reduceLeDiff, Int.reduceToNat, Int.reduceLT, Int.reduceLE, Int.reduceEq, Int.reduceAdd, Int.reduceSub, Int.reduceMul, Int.toNat_natCast, reduceCtorEq, decide_true, decide_false, IntWalk.i64_in, IntWalk.u64_in, IntWalk.u8_in, a2, a3, o22, o28, h1']
    exact ⟨.inr rfl, by
      simp only [Tryd.f51]
      simp (disch := omega) only [go_sem, ↓IntWalk.iteOmega, IntWalk.toNatUp, Nat.reduceEqDiff, Nat.reduceAdd, Nat.reduceMul, Nat.reduceSub, Nat.reduceLT, Nat.reduceLeDiff, Int.reduceToNat, Int.reduceLT, Int.reduceLE, Int.reduceEq, Int.reduceAdd, Int.reduceSub, Int.reduceMul, Int.toNat_natCast, reduceCtorEq, decide_true, decide_false, IntWalk.i64_in, IntWalk.u64_in, IntWalk.u8_in, a2]
      exact .ref_mk (ro := false) (by rw [upd_off (by simp)]; exact o28) hp1 (by omega) (keepR_new hkp (Nat.le_refl _)) (hR _ _ (by omega) (upd_off (by simp)))⟩
set_option maxHeartbeats 4000000 in
theorem join_can {s : List UInt8} (hs : s.length ≤ 200) {m : Int} (hA : Can 57 spP s m 30) : Can 51 spJ s m 30 := by
  intro r nx o P d hm hP0 hP1 hd0 hd1 h
  refine rd_make (E := EX md0 XRd) rfl XRd_ok crJ_ok mixed (k := 1000) Tryd.func51 (lookJoin _) rfl h ?_
  have hrow := h.row
  have hlt0 := h.lt
  show WP (EX md0 XRd) crJ 1000 (fun _ => none) bJ _ o nx (finJ r s P d o nx)
  rw [bJ_seq]
  generalize hc : tJ = c
  simp only [bJ, Tryd.f51, Option.getD_some, pathC]
  simp (disch := omega) only [go_sem, ↓IntWalk.iteOmega, IntWalk.toNatUp, Nat.reduceEqDiff, Nat.reduceAdd, Nat.reduceMul, Nat.reduceSub, Nat.reduceLT, Nat.reduceLeDiff, Int.reduceToNat, Int.reduceLT, Int.reduceLE, Int.reduceEq, Int.reduceAdd, Int.reduceSub, Int.reduceMul, Int.toNat_natCast, reduceCtorEq, decide_true, decide_false, IntWalk.i64_in, IntWalk.u64_in, IntWalk.u8_in, hrow, crJ_piece]
  refine rd_call (s := s) (P := P) (d := d) (hA _ _ _ P d hm hP0 hP1 hd0 hd1 ⟨by omega, by simp [upd_app, hrow]⟩) ⟨by omega, by simp [upd_app, hrow]⟩ (fun n o1 nx1 k1 k2 k3 => ?_)
  have o12 : o1 (nx, 2) = some (.row ⟨29, 1, (nx, 2), false, true, nd0⟩) := by rw [k2 nx 2 (by omega) (by simp)]; simp [upd_app]
  simp (disch := omega) only [go_sem, ↓IntWalk.iteOmega, IntWalk.toNatUp, Nat.reduceEqDiff, Nat.reduceAdd, Nat.reduceMul, Nat.reduceSub, Nat.reduceLT, Nat.reduceLeDiff, Int.reduceToNat, Int.reduceLT, Int.reduceLE, Int.reduceEq, Int.reduceAdd, Int.reduceSub, Int.reduceMul, Int.toNat_natCast, reduceCtorEq, decide_true, decide_false, IntWalk.i64_in, IntWalk.u64_in, IntWalk.u8_in, o12]
  have k4 : ∃ x d' e, Rdr o1 nx1 r s x d' e ∧ JnAt s P d x d' e [n] ∧ (0 ≤ x ∨ e ≠ 0) := by
    rcases k3 with ⟨P', ⟨q1, q2, q3, q5⟩, q4⟩ | ⟨P', d', e, q1, q2, q3⟩
    · exact ⟨P', d, 0, q4, .inl ⟨rfl, rfl, q1, q2, by show (1 : Int) ≤ _; omega, q3, fun U B hB => by rw [q5 U [] B hB (.inl rfl)]; rfl⟩, by omega⟩
    · exact ⟨P', d', e, q3, .inr ⟨q1, by simp, fun U B hB => q2 U [] B hB (.inl rfl)⟩, .inr q1⟩
  clear k3
  obtain ⟨x, d', e, k5, k6, k7⟩ := k4
  have e1 : cNds [n] = cNd n := cNds_one n
  refine WP_loop (fun m a o2 nx2 => ∃ (x d' e : Int) (l : List Nd) (p : Nat) (g : Tag), m = (if e = 0 then s.length - x.toNat + 1 else 0) ∧ nx + 1 ≤ nx2 ∧ nx ≤ p ∧ p < nx2 ∧ l ≠ [] ∧ a 0 = rdP r ∧ a 2 = .ptr (nx, 2) (nx, 2) 0 ∧ a 3 = .ref (p, 8) g 0 l.length ∧ Rdr o2 nx2 r s x d' e ∧ KeepR r nx o o2 ∧ o2 (nx, 2) = some (.row ⟨29, 1, (nx, 2), false, true, nd0⟩) ∧ o2 (p, 8) = some (.row ⟨29, 5, g, false, true, cNds l⟩) ∧ JnAt s P d x d' e l ∧ (0 ≤ x ∨ e ≠ 0)) (if e = 0 then s.length - x.toNat + 1 else 0) (by split <;> omega) ?_ ?_
  · refine ⟨x, d', e, [n], _, _, rfl, by omega, ?_, ?_, by simp, by simp (disch := omega) only [go_sem, ↓IntWalk.iteOmega, IntWalk.toNatUp, Nat.reduceEqDiff, Nat.reduceAdd, Nat.reduceMul, Nat.reduceSub, Nat.reduceLT, Nat.reduceLeDiff, Int.reduceToNat, Int.reduceLT, Int.reduceLE, Int.reduceEq, Int.reduceAdd, Int.reduceSub, Int.reduceMul, Int.toNat_natCast, reduceCtorEq, decide_true, decide_false, IntWalk.i64_in, IntWalk.u64_in, IntWalk.u8_in], by simp (disch := omega) only [go_sem, ↓IntWalk.iteOmega, IntWalk.toNatUp, Nat.reduceEqDiff, Nat.reduceAdd, Nat.reduceMul, Nat.reduceSub, Nat.reduceLT, Nat.reduceLeDiff, Int.reduceToNat, Int.reduceLT, Int.reduceLE, Int.reduceEq, Int.reduceAdd, Int.reduceSub, Int.reduceMul, Int.toNat_natCast, reduceCtorEq, decide_true, decide_false, IntWalk.i64_in, IntWalk.u64_in, IntWalk.u8_in], by simp (disch := omega) only [go_sem, ↓IntWalk.iteOmega, IntWalk.toNatUp, Nat.reduceEqDiff, Nat.reduceAdd, Nat.reduceMul, Nat.reduceSub, Nat.reduceLT, Nat.reduceLeDiff, Int.reduceToNat, Int.reduceLT, Int.reduceLE, Int.reduceEq, Int.reduceAdd, Int.reduceSub, Int.reduceMul, Int.toNat_natCast, reduceCtorEq, decide_true, decide_false, IntWalk.i64_in, IntWalk.u64_in, IntWalk.u8_in]; rfl, k5.to (by omega) (by simp [upd_app, k5.row]), keepR_new ((keepR_new (KeepR.refl _ _ _) (Nat.le_refl _)).trans (k2.up (nx := nx) (by omega)) (Nat.le_refl _)) (by omega), by simp [upd_app, o12], by simp [upd_app, e1], k6, k7⟩
    · omega
    · omega
  clear k1 k2 k5 k6 k7 o12 hrow e1
  rintro m a o2 nx2 ⟨x, d', e, l, p, g, rfl, hnx, hp1, hp2, hne, a0, a2, a3, hS, hkp, o22, o28, hJn, hx0⟩
  have h2 := hS.row
  have hrlt := hS.lt
  have hnext := XRd_next s x d' e hx0
  have hll : l.length ≤ 300 := by rcases hJn with ⟨_, _, _, _, g', _⟩ | ⟨_, g', _⟩ <;> omega
  have htk : (cNds l).take (l.length * 5) = cNds l := take_len (cNds_length l)
  have hcl := cNds_length l
  have hstop : ((s.length : Int) ≤ x ∨ e ≠ 0 ∨ byteN s x = 124 ∨ byteN s x = 41) → ∀ (a' : AAct) (nx3 : Nat), nx2 ≤ nx3 → a' 2 = .ptr (nx, 2) (nx, 2) 0 → a' 3 = .ref (p, 8) g 0 l.length →
      WP (EX md0 XRd) crJ 1000 (fun _ => none) c a' o2 nx3 (finJ r s P d o nx) := by
    intro g3 a' nx3 g1 a2 a3
    rw [← hc]
    refine join_tail (by omega) hne hll hp1 hkp a2 a3 o22 o28 (fun o4 nx4 q1 q2 => ?_)
    have hR : Rdr o4 nx4 r s x d' e := hS.to (by omega) (by rw [q2]; exact h2)
    rcases hJn with ⟨rfl, rfl, p1, p2, p3, p4, p5⟩ | ⟨p1, p2, p3⟩
    · exact .inl ⟨x, ⟨p1, p2, by rcases g3 with g3 | g3 | g3 | g3 <;> simp_all, fun U B hB => ⟨l, hne, rfl, p5 U B hB⟩⟩, hR⟩
    · exact .inr ⟨x, d', e, p1, p3, hR⟩
  by_cases hst : (s.length : Int) ≤ x ∨ e ≠ 0
  · rw [next_end hst] at hnext
    simp (disch := omega) only [go_sem, ↓IntWalk.iteOmega, IntWalk.toNatUp, Nat.reduceEqDiff, Nat.reduceAdd, Nat.reduceMul, Nat.reduceSub, Nat.reduceLT, Nat.reduceLeDiff, Int.reduceToNat, Int.reduceLT, Int.reduceLE, Int.reduceEq, Int.reduceAdd, Int.reduceSub, Int.reduceMul, Int.toNat_natCast, reduceCtorEq, decide_true, decide_false, IntWalk.i64_in, IntWalk.u64_in, IntWalk.u8_in, a0, a2, a3, h2, hnext]
    exact hstop (by rcases hst with g' | g'; exact .inl g'; exact .inr (.inl g')) _ _ (by omega) (by simp (disch := omega) only [go_sem, ↓IntWalk.iteOmega, IntWalk.toNatUp, Nat.reduceEqDiff, Nat.reduceAdd, Nat.reduceMul, Nat.reduceSub, Nat.reduceLT, Nat.reduceLeDiff, Int.reduceToNat, Int.reduceLT, Int.reduceLE, Int.reduceEq, Int.reduceAdd, Int.reduceSub, Int.reduceMul, Int.toNat_natCast, reduceCtorEq, decide_true, decide_false, IntWalk.i64_in, IntWalk.u64_in, IntWalk.u8_in, a2]) (by simp (disch := omega) only [go_sem, ↓IntWalk.iteOmega, IntWalk.toNatUp, Nat.reduceEqDiff, Nat.reduceAdd, Nat.reduceMul, Nat.reduceSub, Nat.reduceLT, Nat.reduceLeDiff, Int.reduceToNat, Int.reduceLT, Int.reduceLE, Int.reduceEq, Int.reduceAdd, Int.reduceSub, Int.reduceMul, Int.toNat_natCast, reduceCtorEq, decide_true, decide_false, IntWalk.i64_in, IntWalk.u64_in, IntWalk.u8_in, a3])
  have he : e = 0 := Classical.not_not.1 (fun g => hst (.inr g))
  have hend : ¬ (s.length : Int) ≤ x := fun g => hst (.inl g)
  subst he
  obtain ⟨_, rfl, p1, p2, p3, p4, p5⟩ : 0 = (0 : Int) ∧ d' = d ∧ P < x ∧ x ≤ s.length ∧ (l.length : Int) ≤ x - P ∧ ((s.length : Int) ≤ x ∨ afterN (byteN s x) = 0) ∧ ∀ U (B : Lvs), (B.length : Int) = d → pG s P U [] B = pG s x U l B := by
    rcases hJn with g | g
    · exact g
    · exact absurd rfl g.1
  have p4 := p4.resolve_left hend
  obtain ⟨ch, hch, hbt⟩ := byte_at (a := x) (by omega) hend
  rw [next_at hend, hbt] at hnext
  rw [if_pos rfl]
  by_cases h124 : (ch.toNat : Int) = 124
  · rw [h124] at hnext hbt
    simp (disch := omega) only [go_sem, ↓IntWalk.iteOmega, IntWalk.toNatUp, Nat.reduceEqDiff, Nat.reduceAdd, Nat.reduceMul, Nat.reduceSub, Nat.reduceLT, Nat.reduceLeDiff, Int.reduceToNat, Int.reduceLT, Int.reduceLE, Int.reduceEq, Int.reduceAdd, Int.reduceSub, Int.reduceMul, Int.toNat_natCast, reduceCtorEq, decide_true, decide_false, IntWalk.i64_in, IntWalk.u64_in, IntWalk.u8_in, a0, a2, a3, h2, hnext]
    exact hstop (.inr (.inr (.inl hbt))) _ _ (by omega) (by simp (disch := omega) only [go_sem, ↓IntWalk.iteOmega, IntWalk.toNatUp, Nat.reduceEqDiff, Nat.reduceAdd, Nat.reduceMul, Nat.reduceSub, Nat.reduceLT, Nat.reduceLeDiff, Int.reduceToNat, Int.reduceLT, Int.reduceLE, Int.reduceEq, Int.reduceAdd, Int.reduceSub, Int.reduceMul, Int.toNat_natCast, reduceCtorEq, decide_true, decide_false, IntWalk.i64_in, IntWalk.u64_in, IntWalk.u8_in, a2]) (by simp (disch := omega) only [go_sem, ↓IntWalk.iteOmega, IntWalk.toNatUp, Nat.reduceEqDiff, Nat.reduceAdd, Nat.reduceMul, Nat.reduceSub, Nat.reduceLT, Nat.reduceLeDiff, Int.reduceToNat, Int.reduceLT, Int.reduceLE, Int.reduceEq, Int.reduceAdd, Int.reduceSub, Int.reduceMul, Int.toNat_natCast, reduceCtorEq, decide_true, decide_false, IntWalk.i64_in, IntWalk.u64_in, IntWalk.u8_in, a3])
  by_cases h41 : (ch.toNat : Int) = 41
  · rw [h41] at hnext hbt
    simp (disch := omega) only [go_sem, ↓IntWalk.iteOmega, IntWalk.toNatUp, Nat.reduceEqDiff, Nat.reduceAdd, Nat.reduceMul, Nat.reduceSub, Nat.reduceLT, Nat.reduceLeDiff, Int.reduceToNat, Int.reduceLT, Int.reduceLE, Int.reduceEq, Int.reduceAdd, Int.reduceSub, Int.reduceMul, Int.toNat_natCast, reduceCtorEq, decide_true, decide_false, IntWalk.i64_in, IntWalk.u64_in, IntWalk.u8_in, a0, a2, a3, h2, hnext]
    exact hstop (.inr (.inr (.inr hbt))) _ _ (by omega) (by simp (disch := omega) only [go_sem, ↓IntWalk.iteOmega, IntWalk.toNatUp, Nat.reduceEqDiff, Nat.reduceAdd, Nat.reduceMul, Nat.reduceSub, Nat.reduceLT, Nat.reduceLeDiff, Int.reduceToNat, Int.reduceLT, Int.reduceLE, Int.reduceEq, Int.reduceAdd, Int.reduceSub, Int.reduceMul, Int.toNat_natCast, reduceCtorEq, decide_true, decide_false, IntWalk.i64_in, IntWalk.u64_in, IntWalk.u8_in, a2]) (by simp (disch := omega) only [go_sem, ↓IntWalk.iteOmega, IntWalk.toNatUp, Nat.reduceEqDiff, Nat.reduceAdd, Nat.reduceMul, Nat.reduceSub, Nat.reduceLT, Nat.reduceLeDiff, Int.reduceToNat, Int.reduceLT, Int.reduceLE, Int.reduceEq, Int.reduceAdd, Int.reduceSub, Int.reduceMul, Int.toNat_natCast, reduceCtorEq, decide_true, decide_false, IntWalk.i64_in, IntWalk.u64_in, IntWalk.u8_in, a3])
  clear hstop
  simp (disch := omega) only [go_sem, ↓IntWalk.iteOmega, IntWalk.toNatUp, Nat.reduceEqDiff, Nat.reduceAdd, Nat.reduceMul, Nat.reduceSub, Nat.reduceLT, Nat.reduceLeDiff, Int.reduceToNat, Int.reduceLT, Int.reduceLE, Int.reduceEq, Int.reduceAdd, Int.reduceSub, Int.reduceMul, Int.toNat_natCast, reduceCtorEq, decide_true, decide_false, IntWalk.i64_in, IntWalk.u64_in, IntWalk.u8_in, a0, a2, a3, h2, hnext, h124, h41, crJ_piece]
  refine rd_call (s := s) (P := x) (d := d') (hA _ _ _ x d' (by omega) (by omega) p2 hd0 hd1 ⟨by omega, h2⟩) ⟨by omega, h2⟩ (fun n o3 nx3 k1 k2 k3 => ?_)
  have o32 : o3 (nx, 2) = some (.row ⟨29, 1, (nx, 2), false, true, nd0⟩) := (k2 nx 2 (by omega) (by simp)).trans o22
  have o38 : o3 (p, 8) = some (.row ⟨29, 5, g, false, true, cNds l⟩) := (k2 p 8 (by omega) (by simp)).trans o28
  have hk3 : KeepR r nx o o3 := hkp.trans (k2.up (nx := nx) (by omega)) (Nat.le_refl _)
  have hsn : cNds (l ++ [n]) = cNds l ++ cNd n := by rw [cNds_app, cNds_one]
  have k4 : ∃ x' d'' e, Rdr o3 nx3 r s x' d'' e ∧ JnAt s P d' x' d'' e (l ++ [n]) ∧ (0 ≤ x' ∨ e ≠ 0) ∧ (if e = 0 then s.length - x'.toNat + 1 else 0) < s.length - x.toNat + 1 := by
    have hpre : PreJ s x l := .inr ⟨hend, by rw [hbt]; exact h124, by rw [hbt]; exact h41, p4⟩
    rcases k3 with ⟨P', ⟨q1, q2, q3, q5⟩, q4⟩ | ⟨P', d', e, q1, q2, q3⟩
    · exact ⟨P', d', 0, q4, .inl ⟨rfl, rfl, by omega, q2, by rw [List.length_append]; show ((l.length + 1 : Nat) : Int) ≤ _; omega, q3, fun U B hB => by rw [p5 U B hB, q5 U l B hB hpre]⟩, by omega, by rw [if_pos rfl]; omega⟩
    · exact ⟨P', d', e, q3, .inr ⟨q1, by rw [List.length_append]; show l.length + 1 ≤ 300; omega, fun U B hB => by rw [p5 U B hB, q2 U l B hB hpre]⟩, .inr q1, by rw [if_neg q1]; omega⟩
  clear k3
  obtain ⟨x', d'', e, k5, k6, k7, k8⟩ := k4
  simp (disch := omega) only [go_sem, ↓IntWalk.iteOmega, IntWalk.toNatUp, Nat.reduceEqDiff, Nat.reduceAdd, Nat.reduceMul, Nat.reduceSub, Nat.reduceLT, Nat.reduceLeDiff, Int.reduceToNat, Int.reduceLT, Int.reduceLE, Int.reduceEq, Int.reduceAdd, Int.reduceSub, Int.reduceMul, Int.toNat_natCast, reduceCtorEq, decide_true, decide_false, IntWalk.i64_in, IntWalk.u64_in, IntWalk.u8_in, a0, a2, a3, o32, o38, htk, hcl]
  exact ⟨_, k8, x', d'', e, l ++ [n], p, _, rfl, by omega, hp1, by omega, by simp, by rw [List.length_append]; rfl, k5.to (Nat.le_refl _) (by rw [upd_off (by simp), upd_off (by simp)]; exact k5.row), keepR_new (keepR_new hk3 (by omega)) hp1, by rw [if_pos rfl, hsn], k6, k7⟩
/-! ### union -/
theorem lookUnion (X) : lookedAt (EX md0 X) (fun _ => none) 1 Tryd.f42 = true := by kernel_rfl
noncomputable def crU : CallR := tabLookR [(51, cRel (RRd 51 spJ))]
theorem crU_ok : CRSound Tryd.prog crU ∧ Up crU := tabR_cons (tabR_nil _) fun args H v H' h => (cRel_some h).1
theorem crU_join : crU 51 = cRel (RRd 51 spJ) := rfl
def UnAt (s : List UInt8) (P d x d' e : Int) (l : List Nd) : Prop :=
  (e = 0 ∧ d' = d ∧ P < x ∧ x ≤ s.length ∧ (l.length : Int) ≤ x - P ∧ ((s.length : Int) ≤ x ∨ byteN s x = 124 ∨ byteN s x = 41) ∧ ∀ (B : Lvs), (B.length : Int) = d → ∃ U J, J ≠ [] ∧ U ++ [manyN 4 J] = l ∧ pG s P [] [] B = pG s x U J B) ∨
  (e ≠ 0 ∧ l.length ≤ 300 ∧ ∀ (B : Lvs), (B.length : Int) = d → pG s P [] [] B = (zeroN, x, e))
theorem pG_bar' {s : List UInt8} {P : Int} {U J} {B : Lvs} (h : ¬ (s.length : Int) ≤ P) (hb : byteN s P = 124) (hJ : J ≠ []) : pG s P U J B = pG s (P + 1) (U ++ [manyN 4 J]) [] B := by
  rw [pG_eq, if_neg h, hb, if_neg (by decide), if_neg (by decide), if_neg (by decide), if_neg hJ, if_neg (by decide), if_neg (by decide), if_pos rfl]
theorem pG_close' {s : List UInt8} {P : Int} {U J U0 J0} {B : Lvs} (h : ¬ (s.length : Int) ≤ P) (hb : byteN s P = 41) (hJ : J ≠ []) : pG s P U J ((U0, J0) :: B) = pG s (P + 1) U0 (J0 ++ [manyN 5 (U ++ [manyN 4 J])]) B := by
  rw [pG_eq, if_neg h, hb, if_neg (by decide), if_neg (by decide), if_neg (by decide), if_neg hJ, if_neg (by decide), if_neg (by decide), if_neg (by decide), if_pos ⟨rfl, by simp⟩]
  rfl
noncomputable def bU : Code := Tryd.f42.body.getD .skip
noncomputable def tU : Code := pathC [1, 1, 1] bU
theorem bU_seq : bU = .seq (pathC [0] bU) (.seq (pathC [1, 0] bU) (.seq (pathC [1, 1, 0] bU) tU)) := by kernel_rfl
abbrev finU (r : Nat) (s : List UInt8) (P d : Int) (o : Ob) (nx : Nat) : WPost := fun u a o' nx' => (u = .normal ∨ u = .ret) ∧ wO (resultsL Tryd.prog a ⟨o', nx'⟩ Tryd.f42.results.toList) (fun vs => RdPost r s d (spU.ok s P d) (spU.bad s P d) o nx (tup1 vs) o' nx')
/-- Behind the loop. -/
theorem union_tail {s : List UInt8} {r nx p : Nat} {P d : Int} {o o3 : Ob} {nx3 : Nat} {g : Tag} {l : List Nd} {a : AAct} (hn : nx + 1 ≤ nx3) (hne : l ≠ []) (hll : l.length ≤ 300) (hp1 : nx ≤ p) (hkp : KeepR r nx o o3) (a2 : a 2 = .ptr (nx, 2) (nx, 2) 0) (a3 : a 3 = .ref (p, 8) g 0 l.length)
    (o22 : o3 (nx, 2) = some (.row ⟨29, 1, (nx, 2), false, true, nd0⟩)) (o28 : o3 (p, 8) = some (.row ⟨29, 5, g, false, true, cNds l⟩))
    (hR : ∀ (o4 : Ob) (nx4 : Nat), nx3 ≤ nx4 → o4 (r, 13) = o3 (r, 13) → (∃ P', spU.ok s P d (manyN 5 l) P' ∧ Rdr o4 nx4 r s P' d 0) ∨ (∃ P' d' e, e ≠ 0 ∧ spU.bad s P d P' e ∧ Rdr o4 nx4 r s P' d' e)) :
    WP (EX md0 XRd) crU 1000 (fun _ => none) tU a o3 nx3 (finU r s P d o nx) := by
  have htk : (cNds l).take (l.length * 5) = cNds l := take_len (cNds_length l)
  have hcl := cNds_length l
  have hlp : l.length ≠ 0 := fun h' => hne (List.length_eq_zero_iff.1 h')
  simp only [tU, bU, Tryd.f42, Option.getD_some, pathC]
  by_cases h1 : l.length = 1
  · obtain ⟨y, rfl⟩ : ∃ y, l = [y] := List.length_eq_one_iff.1 h1
    have hy : cNds [y] = cNd y ++ [] := by rw [cNds_one, List.append_nil]
    rw [hy] at o28
    simp (disch := omega) only [go_sem, ↓IntWalk.iteOmega, IntWalk.toNatUp, Nat.reduceEqDiff, Nat.reduceAdd, Nat.reduceMul, Nat.reduceSub, Nat.reduceLT, Nat.reduceLeDiff, Int.reduceToNat, Int.reduceLT, Int.reduceLE, Int.reduceEq, Int.reduceAdd, Int.reduceSub, Int.reduceMul, Int.toNat_natCast, reduceCtorEq, decide_true, decide_false, IntWalk.i64_in, IntWalk.u64_in, IntWalk.u8_in, a2, a3, o22, o28]
    exact ⟨.inr rfl, by
      simp only [Tryd.f42]
      simp (disch := omega) only [go_sem, ↓IntWalk.iteOmega, IntWalk.toNatUp, Nat.reduceEqDiff, Nat.reduceAdd, Nat.reduceMul, Nat.reduceSub, Nat.reduceLT, Nat.reduceLeDiff, Int.reduceToNat, Int.reduceLT, Int.reduceLE, Int.reduceEq, Int.reduceAdd, Int.reduceSub, Int.reduceMul, Int.toNat_natCast, reduceCtorEq, decide_true, decide_false, IntWalk.i64_in, IntWalk.u64_in, IntWalk.u8_in, a2]
      exact ⟨by omega, keepR_new hkp (Nat.le_refl _), fun q hq => (by rw [tags_agg_cNd] at hq; cases hq), y, view_agg_cNd _ _, hR _ _ (by omega) (upd_off (by simp))⟩⟩
  · have h1' : ¬ (l.length : Int) = 1 := by omega
    rw [many_mk (by omega)] at hR
    simp (disch := omega) only [go_sem, ↓IntWalk.iteOmega, IntWalk.toNatUp, Nat.reduceEqDiff, Nat.reduceAdd, Nat.reduceMul, Nat.reduceSub, Nat.reduceLT, Nat.reduceLeDiff, Int.reduceToNat, Int.reduceLT, Int.reduceLE, Int.reduceEq, Int.reduceAdd, Int.reduceSub, Int.reduceMul, Int.toNat_natCast, reduceCtorEq, decide_true, decide_false, IntWalk.i64_in, IntWalk.u64_in, IntWalk.u8_in, a2, a3, o22, o28, h1']
    exact ⟨.inr rfl, by
      simp only [Tryd.f42]
      simp (disch := omega) only [go_sem, ↓IntWalk.iteOmega, IntWalk.toNatUp, Nat.reduceEqDiff, Nat.reduceAdd, Nat.reduceMul, Nat.reduceSub, Nat.reduceLT, Nat.reduceLeDiff, Int.reduceToNat, Int.reduceLT, Int.reduceLE, Int.reduceEq, Int.reduceAdd, Int.reduceSub, Int.reduceMul, Int.toNat_natCast, reduceCtorEq, decide_true, decide_false, IntWalk.i64_in, IntWalk.u64_in, IntWalk.u8_in, a2]
      exact .ref_mk (ro := false) (by rw [upd_off (by simp)]; exact o28) hp1 (by omega) (keepR_new hkp (Nat.le_refl _)) (hR _ _ (by omega) (upd_off (by simp)))⟩
set_option maxHeartbeats 4000000 in
theorem union_can {s : List UInt8} (hs : s.length ≤ 200) {m : Int} (hA : Can 51 spJ s m 30) : Can 42 spU s m 30 := by
  intro r nx o P d hm hP0 hP1 hd0 hd1 h
  refine rd_make (E := EX md0 XRd) rfl XRd_ok crU_ok mixed (k := 1000) Tryd.func42 (lookUnion _) rfl h ?_
  have hrow := h.row
  have hlt0 := h.lt
  show WP (EX md0 XRd) crU 1000 (fun _ => none) bU _ o nx (finU r s P d o nx)
  rw [bU_seq]
  generalize hc : tU = c
  simp only [bU, Tryd.f42, Option.getD_some, pathC]
  simp (disch := omega) only [go_sem, ↓IntWalk.iteOmega, IntWalk.toNatUp, Nat.reduceEqDiff, Nat.reduceAdd, Nat.reduceMul, Nat.reduceSub, Nat.reduceLT, Nat.reduceLeDiff, Int.reduceToNat, Int.reduceLT, Int.reduceLE, Int.reduceEq, Int.reduceAdd, Int.reduceSub, Int.reduceMul, Int.toNat_natCast, reduceCtorEq, decide_true, decide_false, IntWalk.i64_in, IntWalk.u64_in, IntWalk.u8_in, hrow, crU_join]
  refine rd_call (s := s) (P := P) (d := d) (hA _ _ _ P d hm hP0 hP1 hd0 hd1 ⟨by omega, by simp [upd_app, hrow]⟩) ⟨by omega, by simp [upd_app, hrow]⟩ (fun n o1 nx1 k1 k2 k3 => ?_)
  have o12 : o1 (nx, 2) = some (.row ⟨29, 1, (nx, 2), false, true, nd0⟩) := by rw [k2 nx 2 (by omega) (by simp)]; simp [upd_app]
  simp (disch := omega) only [go_sem, ↓IntWalk.iteOmega, IntWalk.toNatUp, Nat.reduceEqDiff, Nat.reduceAdd, Nat.reduceMul, Nat.reduceSub, Nat.reduceLT, Nat.reduceLeDiff, Int.reduceToNat, Int.reduceLT, Int.reduceLE, Int.reduceEq, Int.reduceAdd, Int.reduceSub, Int.reduceMul, Int.toNat_natCast, reduceCtorEq, decide_true, decide_false, IntWalk.i64_in, IntWalk.u64_in, IntWalk.u8_in, o12]
  have k4 : ∃ x d' e, Rdr o1 nx1 r s x d' e ∧ UnAt s P d x d' e [n] ∧ (0 ≤ x ∨ e ≠ 0) := by
    rcases k3 with ⟨P', ⟨q1, q2, q3, q5⟩, q4⟩ | ⟨P', d', e, q1, q2, q3⟩
    · exact ⟨P', d, 0, q4, .inl ⟨rfl, rfl, q1, q2, by show (1 : Int) ≤ _; omega, q3, fun B hB => by obtain ⟨J, g1, g2, g3⟩ := q5 [] B hB; exact ⟨[], J, g1, by rw [g2]; rfl, g3⟩⟩, by omega⟩
    · exact ⟨P', d', e, q3, .inr ⟨q1, by simp, fun B hB => q2 [] B hB⟩, .inr q1⟩
  clear k3
  obtain ⟨x, d', e, k5, k6, k7⟩ := k4
  have e1 : cNds [n] = cNd n := cNds_one n
  refine WP_loop (fun m a o2 nx2 => ∃ (x d' e : Int) (l : List Nd) (p : Nat) (g : Tag), m = (if e = 0 then s.length - x.toNat + 1 else 0) ∧ nx + 1 ≤ nx2 ∧ nx ≤ p ∧ p < nx2 ∧ l ≠ [] ∧ a 0 = rdP r ∧ a 2 = .ptr (nx, 2) (nx, 2) 0 ∧ a 3 = .ref (p, 8) g 0 l.length ∧ Rdr o2 nx2 r s x d' e ∧ KeepR r nx o o2 ∧ o2 (nx, 2) = some (.row ⟨29, 1, (nx, 2), false, true, nd0⟩) ∧ o2 (p, 8) = some (.row ⟨29, 5, g, false, true, cNds l⟩) ∧ UnAt s P d x d' e l ∧ (0 ≤ x ∨ e ≠ 0)) (if e = 0 then s.length - x.toNat + 1 else 0) (by split <;> omega) ?_ ?_
  · refine ⟨x, d', e, [n], _, _, rfl, by omega, ?_, ?_, by simp, by simp (disch := omega) only [go_sem, ↓IntWalk.iteOmega, IntWalk.toNatUp, Nat.reduceEqDiff, Nat.reduceAdd, Nat.reduceMul, Nat.reduceSub, Nat.reduceLT, Nat.reduceLeDiff, Int.reduceToNat, Int.reduceLT, Int.reduceLE, Int.reduceEq, Int.reduceAdd, Int.reduceSub, Int.reduceMul, Int.toNat_natCast, reduceCtorEq, decide_true, decide_false, IntWalk.i64_in, IntWalk.u64_in, IntWalk.u8_in], by simp (disch := omega) only [go_sem, ↓IntWalk.iteOmega, IntWalk.toNatUp, Nat.reduceEqDiff, Nat.reduceAdd, Nat.reduceMul, Nat.reduceSub, Nat.reduceLT, Nat.reduceLeDiff, Int.reduceToNat, Int.reduceLT, Int.reduceLE, Int.reduceEq, Int.reduceAdd, Int.reduceSub, Int.reduceMul, Int.toNat_natCast, reduceCtorEq, decide_true, decide_false, IntWalk.i64_in, IntWalk.u64_in, IntWalk.u8_in], by simp (disch := omega) only [go_sem, ↓IntWalk.iteOmega, IntWalk.toNatUp, Nat.reduceEqDiff, Nat.reduceAdd, Nat.reduceMul, Nat.reduceSub, Nat.reduceLT, Nat.reduceLeDiff, Int.reduceToNat, Int.reduceLT, Int.reduceLE, Int.reduceEq, Int.reduceAdd, Int.reduceSub, Int.reduceMul, Int.toNat_natCast, reduceCtorEq, decide_true, decide_false, IntWalk.i64_in, IntWalk.u64_in, IntWalk.u8_in]; rfl, k5.to (by omega) (by simp [upd_app, k5.row]), keepR_new ((keepR_new (KeepR.refl _ _ _) (Nat.le_refl _)).trans (k2.up (nx := nx) (by omega)) (Nat.le_refl _)) (by omega), by simp [upd_app, o12], by simp [upd_app, e1], k6, k7⟩
    · omega
    · omega
  clear k1 k2 k5 k6 k7 o12 hrow e1
  rintro m a o2 nx2 ⟨x, d', e, l, p, g, rfl, hnx, hp1, hp2, hne, a0, a2, a3, hS, hkp, o22, o28, hJn, hx0⟩
  have h2 := hS.row
  have hrlt := hS.lt
  have hnext := XRd_next s x d' e hx0
  have hll : l.length ≤ 300 := by rcases hJn with ⟨_, _, _, _, g', _⟩ | ⟨_, g', _⟩ <;> omega
  have htk : (cNds l).take (l.length * 5) = cNds l := take_len (cNds_length l)
  have hcl := cNds_length l
  have hstop : ((s.length : Int) ≤ x ∨ e ≠ 0 ∨ byteN s x = 41) → ∀ (a' : AAct) (nx3 : Nat), nx2 ≤ nx3 → a' 2 = .ptr (nx, 2) (nx, 2) 0 → a' 3 = .ref (p, 8) g 0 l.length →
      WP (EX md0 XRd) crU 1000 (fun _ => none) c a' o2 nx3 (finU r s P d o nx) := by
    intro g3 a' nx3 g1 a2 a3
    rw [← hc]
    refine union_tail (by omega) hne hll hp1 hkp a2 a3 o22 o28 (fun o4 nx4 q1 q2 => ?_)
    have hR : Rdr o4 nx4 r s x d' e := hS.to (by omega) (by rw [q2]; exact h2)
    rcases hJn with ⟨rfl, rfl, p1, p2, p3, p4, p5⟩ | ⟨p1, p2, p3⟩
    · exact .inl ⟨x, ⟨p1, p2, by rcases g3 with g3 | g3 | g3 <;> simp_all, fun B hB => by obtain ⟨U, J, g4, g5, g6⟩ := p5 B hB; exact ⟨U, J, g4, by rw [g5], g6⟩⟩, hR⟩
    · exact .inr ⟨x, d', e, p1, p3, hR⟩
  by_cases hst : (s.length : Int) ≤ x ∨ e ≠ 0
  · rw [next_end hst] at hnext
    simp (disch := omega) only [go_sem, ↓IntWalk.iteOmega, IntWalk.toNatUp, Nat.reduceEqDiff, Nat.reduceAdd, Nat.reduceMul, Nat.reduceSub, Nat.reduceLT, Nat.reduceLeDiff, Int.reduceToNat, Int.reduceLT, Int.reduceLE, Int.reduceEq, Int.reduceAdd, Int.reduceSub, Int.reduceMul, Int.toNat_natCast, reduceCtorEq, decide_true, decide_false, IntWalk.i64_in, IntWalk.u64_in, IntWalk.u8_in, a0, a2, a3, h2, hnext]
    exact hstop (by rcases hst with g' | g'; exact .inl g'; exact .inr (.inl g')) _ _ (by omega) (by simp (disch := omega) only [go_sem, ↓IntWalk.iteOmega, IntWalk.toNatUp, Nat.reduceEqDiff, Nat.reduceAdd, Nat.reduceMul, Nat.reduceSub, Nat.reduceLT, Nat.reduceLeDiff, Int.reduceToNat, Int.reduceLT, Int.reduceLE, Int.reduceEq, Int.reduceAdd, Int.reduceSub, Int.reduceMul, Int.toNat_natCast, reduceCtorEq, decide_true, decide_false, IntWalk.i64_in, IntWalk.u64_in, IntWalk.u8_in, a2]) (by simp (disch := omega) only [go_sem, ↓IntWalk.iteOmega, IntWalk.toNatUp, Nat.reduceEqDiff, Nat.reduceAdd, Nat.reduceMul, Nat.reduceSub, Nat.reduceLT, Nat.reduceLeDiff, Int.reduceToNat, Int.reduceLT, Int.reduceLE, Int.reduceEq, Int.reduceAdd, Int.reduceSub, Int.reduceMul, Int.toNat_natCast, reduceCtorEq, decide_true, decide_false, IntWalk.i64_in, IntWalk.u64_in, IntWalk.u8_in, a3])
  have he : e = 0 := Classical.not_not.1 (fun g => hst (.inr g))
  have hend : ¬ (s.length : Int) ≤ x := fun g => hst (.inl g)
  subst he
  obtain ⟨_, rfl, p1, p2, p3, p4, p5⟩ : 0 = (0 : Int) ∧ d' = d ∧ P < x ∧ x ≤ s.length ∧ (l.length : Int) ≤ x - P ∧ ((s.length : Int) ≤ x ∨ byteN s x = 124 ∨ byteN s x = 41) ∧ ∀ (B : Lvs), (B.length : Int) = d → ∃ U J, J ≠ [] ∧ U ++ [manyN 4 J] = l ∧ pG s P [] [] B = pG s x U J B := by
    rcases hJn with g | g
    · exact g
    · exact absurd rfl g.1
  have p4 := p4.resolve_left hend
  obtain ⟨ch, hch, hbt⟩ := byte_at (a := x) (by omega) hend
  rw [next_at hend, hbt] at hnext
  rw [if_pos rfl]
  by_cases h124 : (ch.toNat : Int) ≠ 124
  · have h41 : byteN s x = 41 := p4.resolve_left (by rw [hbt]; exact h124)
    rw [hbt] at h41
    rw [h41] at hnext hbt
    simp (disch := omega) only [go_sem, ↓IntWalk.iteOmega, IntWalk.toNatUp, Nat.reduceEqDiff, Nat.reduceAdd, Nat.reduceMul, Nat.reduceSub, Nat.reduceLT, Nat.reduceLeDiff, Int.reduceToNat, Int.reduceLT, Int.reduceLE, Int.reduceEq, Int.reduceAdd, Int.reduceSub, Int.reduceMul, Int.toNat_natCast, reduceCtorEq, decide_true, decide_false, IntWalk.i64_in, IntWalk.u64_in, IntWalk.u8_in, a0, a2, a3, h2, hnext]
    exact hstop (.inr (.inr hbt)) _ _ (by omega) (by simp (disch := omega) only [go_sem, ↓IntWalk.iteOmega, IntWalk.toNatUp, Nat.reduceEqDiff, Nat.reduceAdd, Nat.reduceMul, Nat.reduceSub, Nat.reduceLT, Nat.reduceLeDiff, Int.reduceToNat, Int.reduceLT, Int.reduceLE, Int.reduceEq, Int.reduceAdd, Int.reduceSub, Int.reduceMul, Int.toNat_natCast, reduceCtorEq, decide_true, decide_false, IntWalk.i64_in, IntWalk.u64_in, IntWalk.u8_in, a2]) (by simp (disch := omega) only [go_sem, ↓IntWalk.iteOmega, IntWalk.toNatUp, Nat.reduceEqDiff, Nat.reduceAdd, Nat.reduceMul, Nat.reduceSub, Nat.reduceLT, Nat.reduceLeDiff, Int.reduceToNat, Int.reduceLT, Int.reduceLE, Int.reduceEq, Int.reduceAdd, Int.reduceSub, Int.reduceMul, Int.toNat_natCast, reduceCtorEq, decide_true, decide_false, IntWalk.i64_in, IntWalk.u64_in, IntWalk.u8_in, a3])
  have h124 : (ch.toNat : Int) = 124 := Classical.not_not.1 h124
  rw [h124] at hnext hbt
  clear hstop
  simp (disch := omega) only [go_sem, ↓IntWalk.iteOmega, IntWalk.toNatUp, Nat.reduceEqDiff, Nat.reduceAdd, Nat.reduceMul, Nat.reduceSub, Nat.reduceLT, Nat.reduceLeDiff, Int.reduceToNat, Int.reduceLT, Int.reduceLE, Int.reduceEq, Int.reduceAdd, Int.reduceSub, Int.reduceMul, Int.toNat_natCast, reduceCtorEq, decide_true, decide_false, IntWalk.i64_in, IntWalk.u64_in, IntWalk.u8_in, a0, a2, a3, h2, hnext, crU_join]
  refine rd_call (s := s) (P := x + 1) (d := d') (hA _ _ _ (x + 1) d' (by omega) (by omega) (by omega) hd0 hd1 ⟨by omega, upd_same _ _ _⟩) ⟨by omega, upd_same _ _ _⟩ (fun n o3 nx3 k1 k2 k3 => ?_)
  have o32 : o3 (nx, 2) = some (.row ⟨29, 1, (nx, 2), false, true, nd0⟩) := by rw [k2 nx 2 (by omega) (by simp), upd_off (by simp)]; exact o22
  have o38 : o3 (p, 8) = some (.row ⟨29, 5, g, false, true, cNds l⟩) := by rw [k2 p 8 (by omega) (by simp), upd_off (by simp)]; exact o28
  have hk3 : KeepR r nx o o3 := (keepR_own hkp).trans (k2.up (nx := nx) (by omega)) (Nat.le_refl _)
  have hsn : cNds (l ++ [n]) = cNds l ++ cNd n := by rw [cNds_app, cNds_one]
  have k4 : ∃ x' d'' e, Rdr o3 nx3 r s x' d'' e ∧ UnAt s P d' x' d'' e (l ++ [n]) ∧ (0 ≤ x' ∨ e ≠ 0) ∧ (if e = 0 then s.length - x'.toNat + 1 else 0) < s.length - x.toNat + 1 := by
    rcases k3 with ⟨P', ⟨q1, q2, q3, q5⟩, q4⟩ | ⟨P', d', e, q1, q2, q3⟩
    · exact ⟨P', d', 0, q4, .inl ⟨rfl, rfl, by omega, q2, by rw [List.length_append]; show ((l.length + 1 : Nat) : Int) ≤ _; omega, q3, fun B hB => by
        obtain ⟨U, J, g1, g2, g3⟩ := p5 B hB
        obtain ⟨J', g4, g5, g6⟩ := q5 l B hB
        exact ⟨l, J', g4, by rw [g5], by rw [g3, pG_bar' hend hbt g1, g2, g6]⟩⟩, by omega, by rw [if_pos rfl]; omega⟩
    · exact ⟨P', d', e, q3, .inr ⟨q1, by rw [List.length_append]; show l.length + 1 ≤ 300; omega, fun B hB => by
        obtain ⟨U, J, g1, g2, g3⟩ := p5 B hB
        rw [g3, pG_bar' hend hbt g1, g2, q2 l B hB]⟩, .inr q1, by rw [if_neg q1]; omega⟩
  clear k3
  obtain ⟨x', d'', e, k5, k6, k7, k8⟩ := k4
  simp (disch := omega) only [go_sem, ↓IntWalk.iteOmega, IntWalk.toNatUp, Nat.reduceEqDiff, Nat.reduceAdd, Nat.reduceMul, Nat.reduceSub, Nat.reduceLT, Nat.reduceLeDiff, Int.reduceToNat, Int.reduceLT, Int.reduceLE, Int.reduceEq, Int.reduceAdd, Int.reduceSub, Int.reduceMul, Int.toNat_natCast, reduceCtorEq, decide_true, decide_false, IntWalk.i64_in, IntWalk.u64_in, IntWalk.u8_in, a0, a2, a3, o32, o38, htk, hcl]
  exact ⟨_, k8, x', d'', e, l ++ [n], p, _, rfl, by omega, hp1, by omega, by simp, by rw [List.length_append]; rfl, k5.to (Nat.le_refl _) (by rw [upd_off (by simp), upd_off (by simp)]; exact k5.row), keepR_new (keepR_new hk3 (by omega)) hp1, by rw [if_pos rfl, hsn], k6, k7⟩
/-! ### group -/
theorem lookGroup (X) : lookedAt (EX md0 X) (fun _ => none) 1 Tryd.f70 = true := by kernel_rfl
noncomputable def crG : CallR := tabLookR [(42, cRel (RRd 42 spU)), (43, cFail)]
theorem crG_ok : CRSound Tryd.prog crG ∧ Up crG := tabR_cons (tabR_cons (tabR_nil _) cFail_ok) fun args H v H' h => (cRel_some h).1
theorem crG_union : crG 42 = cRel (RRd 42 spU) := rfl
theorem crG_fail : crG 43 = cFail := rfl
theorem pG_endb {s : List UInt8} {P : Int} {U J} {b} {B : Lvs} (h : (s.length : Int) ≤ P) : pG s P U J (b :: B) = (zeroN, P, 3) := by
  rw [pG_eq, if_pos h, if_pos (.inl (by simp))]
theorem group_can {s : List UInt8} (hs : s.length ≤ 200) {m : Int} (hA : Can 42 spU s m 30) : Can 70 spG s m 29 := by
  intro r nx o P d hm hP0 hP1 hd0 hd1 h
  refine rd_make (E := EX md0 XRd) rfl XRd_ok crG_ok mixed (k := 1000) Tryd.func70 (lookGroup _) rfl h ?_
  have hrow := h.row
  have hlt0 := h.lt
  simp only [Tryd.f70, Option.getD_some]
  simp (disch := omega) only [go_sem, ↓IntWalk.iteOmega, IntWalk.toNatUp, Nat.reduceEqDiff, Nat.reduceAdd, Nat.reduceMul, Nat.reduceSub, Nat.reduceLT, Nat.reduceLeDiff, Int.reduceToNat, Int.reduceLT, Int.reduceLE, Int.reduceEq, Int.reduceAdd, Int.reduceSub, Int.reduceMul, Int.toNat_natCast, reduceCtorEq, decide_true, decide_false, IntWalk.i64_in, IntWalk.u64_in, IntWalk.u8_in, hrow, crG_union]
  have hkp0 : KeepR r nx o (upd (upd o (nx, 2) (.row ⟨29, 1, (nx, 2), false, true, nd0⟩)) (r, 13) (.row ⟨77, 1, (r, 13), false, true, [.str s, .int .i64 P, .int .i64 (d + 1), .int .i64 0]⟩)) := keepR_own (keepR_new (KeepR.refl _ _ _) (Nat.le_refl _))
  refine rd_call (s := s) (P := P) (d := d + 1) (hA _ _ _ P (d + 1) hm hP0 hP1 (by omega) (by omega) ⟨by omega, upd_same _ _ _⟩) ⟨by omega, upd_same _ _ _⟩ (fun n o1 nx1 k1 k2 k3 => ?_)
  have o12 : o1 (nx, 2) = some (.row ⟨29, 1, (nx, 2), false, true, nd0⟩) := by rw [k2 nx 2 (by omega) (by simp)]; simp [upd_app]
  have hk1 : KeepR r nx o o1 := hkp0.trans (k2.up (nx := nx) (by omega)) (Nat.le_refl _)
  have hBs : ∀ U J (B : Lvs), (B.length : Int) = d → (((U, J) :: B : Lvs).length : Int) = d + 1 := fun U J B hB => by rw [List.length_cons]; omega
  obtain ⟨nk, ns, nlo, nhi, nl⟩ := n
  rcases k3 with ⟨x, ⟨q1, q2, q3, q5⟩, q4⟩ | ⟨x, d', e, q1, q2, q3⟩
  · have h2 := q4.row
    have hnext := XRd_next s x (d + 1) 0 (by omega)
    by_cases hend : (s.length : Int) ≤ x
    · rw [next_end (.inl hend)] at hnext
      simp (disch := omega) only [go_sem, ↓IntWalk.iteOmega, IntWalk.toNatUp, Nat.reduceEqDiff, Nat.reduceAdd, Nat.reduceMul, Nat.reduceSub, Nat.reduceLT, Nat.reduceLeDiff, Int.reduceToNat, Int.reduceLT, Int.reduceLE, Int.reduceEq, Int.reduceAdd, Int.reduceSub, Int.reduceMul, Int.toNat_natCast, reduceCtorEq, decide_true, decide_false, IntWalk.i64_in, IntWalk.u64_in, IntWalk.u8_in, o12, h2, hnext, crG_fail]
      refine fail_call (P := x) (d := d + 1) (e := 0) (s := s) ⟨by have := q4.lt; omega, by simp [upd_app, h2]⟩ (fun o2 nx2 g1 g2 g3 => ?_)
      have o22 : o2 (nx, 2) = some (.row ⟨29, 1, (nx, 2), false, true, nd0⟩) := by rw [g2 nx 2 (by omega) (by simp)]; simp [upd_app, o12]
      simp (disch := omega) only [go_sem, ↓IntWalk.iteOmega, IntWalk.toNatUp, Nat.reduceEqDiff, Nat.reduceAdd, Nat.reduceMul, Nat.reduceSub, Nat.reduceLT, Nat.reduceLeDiff, Int.reduceToNat, Int.reduceLT, Int.reduceLE, Int.reduceEq, Int.reduceAdd, Int.reduceSub, Int.reduceMul, Int.toNat_natCast, reduceCtorEq, decide_true, decide_false, IntWalk.i64_in, IntWalk.u64_in, IntWalk.u8_in, o22]
      exact .bad_mk zeroN x (d + 1) 3 (by omega) (keepR_new ((keepR_new (keepR_new hk1 (by omega)) (by omega)).trans (g2.up (nx := nx) (by omega)) (Nat.le_refl _)) (Nat.le_refl _)) (view_node _ _ _ _ _ _) (tags_node _ _ _ _ _ _) (by decide) (fun U J B hB => by
        obtain ⟨U', J', g4, g5, g6⟩ := q5 _ (hBs U J B hB)
        rw [g6, pG_endb hend]) (g3.to (Nat.le_refl _) (by rw [upd_off (by simp)]; exact g3.row))
    · have h41 := q3.resolve_left hend
      rw [next_at hend, h41] at hnext
      have ed : d + 1 - 1 = d := by omega
      simp (disch := omega) only [go_sem, ↓IntWalk.iteOmega, IntWalk.toNatUp, Nat.reduceEqDiff, Nat.reduceAdd, Nat.reduceMul, Nat.reduceSub, Nat.reduceLT, Nat.reduceLeDiff, Int.reduceToNat, Int.reduceLT, Int.reduceLE, Int.reduceEq, Int.reduceAdd, Int.reduceSub, Int.reduceMul, Int.toNat_natCast, reduceCtorEq, decide_true, decide_false, IntWalk.i64_in, IntWalk.u64_in, IntWalk.u8_in, o12, h2, hnext, crG_fail, ed]
      exact .ok_mk (.mk nk ns nlo nhi nl) (x + 1) (by omega) (keepR_new (keepR_own (keepR_own (keepR_new (keepR_new hk1 (by omega)) (by omega)))) (Nat.le_refl _)) (view_node _ _ _ _ _ _) (tags_node _ _ _ _ _ _) ⟨by omega, by omega, fun U J B hB => by
        obtain ⟨U', J', g4, g5, g6⟩ := q5 _ (hBs U J B hB)
        rw [g6, pG_close' hend h41 g4, g5]⟩ (q4.to (by omega) (by rw [upd_off (by simp), upd_same]))
  · have h2 := q3.row
    have hnext := XRd_next s x d' e (.inr q1)
    rw [next_end (.inr q1)] at hnext
    simp (disch := omega) only [go_sem, ↓IntWalk.iteOmega, IntWalk.toNatUp, Nat.reduceEqDiff, Nat.reduceAdd, Nat.reduceMul, Nat.reduceSub, Nat.reduceLT, Nat.reduceLeDiff, Int.reduceToNat, Int.reduceLT, Int.reduceLE, Int.reduceEq, Int.reduceAdd, Int.reduceSub, Int.reduceMul, Int.toNat_natCast, reduceCtorEq, decide_true, decide_false, IntWalk.i64_in, IntWalk.u64_in, IntWalk.u8_in, o12, h2, hnext, crG_fail]
    refine fail_call (P := x) (d := d') (e := e) (s := s) ⟨by have := q3.lt; omega, by simp [upd_app, h2]⟩ (fun o2 nx2 g1 g2 g3 => ?_)
    rw [if_neg q1] at g3
    have o22 : o2 (nx, 2) = some (.row ⟨29, 1, (nx, 2), false, true, nd0⟩) := by rw [g2 nx 2 (by omega) (by simp)]; simp [upd_app, o12]
    simp (disch := omega) only [go_sem, ↓IntWalk.iteOmega, IntWalk.toNatUp, Nat.reduceEqDiff, Nat.reduceAdd, Nat.reduceMul, Nat.reduceSub, Nat.reduceLT, Nat.reduceLeDiff, Int.reduceToNat, Int.reduceLT, Int.reduceLE, Int.reduceEq, Int.reduceAdd, Int.reduceSub, Int.reduceMul, Int.toNat_natCast, reduceCtorEq, decide_true, decide_false, IntWalk.i64_in, IntWalk.u64_in, IntWalk.u8_in, o22]
    exact .bad_mk zeroN x d' e (by omega) (keepR_new ((keepR_new (keepR_new hk1 (by omega)) (by omega)).trans (g2.up (nx := nx) (by omega)) (Nat.le_refl _)) (Nat.le_refl _)) (view_node _ _ _ _ _ _) (tags_node _ _ _ _ _ _) q1 (fun U J B hB => q2 _ (hBs U J B hB)) (g3.to (Nat.le_refl _) (by rw [upd_off (by simp)]; exact g3.row))
/-! ### wherever the reader stands -/
theorem all_can {s : List UInt8} (hs : s.length ≤ 200) : ∀ (k : Nat) (m : Int), (s.length : Int) - m < k → Can 70 spG s m 29 ∧ Can 42 spU s m 30
  | 0, m, h => by
    have hv : ∀ f sp M, Can f sp s m M := fun f sp M r nx o P d h1 h2 h3 _ _ _ => by omega
    exact ⟨hv _ _ _, hv _ _ _⟩
  | k + 1, m, h => by
    have hG := (all_can hs k (m + 1) (by omega)).1
    have hU := union_can hs (join_can hs (piece_can hs (atom_can hs hG)))
    exact ⟨group_can hs hU, hU⟩
end Go.Proofs.YtmcbfbpdfbcakaaDoor.A
/- The document's Parse: its contract: the same plain machine. -/
namespace Go.Proofs.YtmcbfbpdfbcakaaDoor.A
open Go
set_option maxRecDepth 20000
noncomputable def crQ : CallR := tabLookR [(42, cRel (RRd 42 spU)), (43, cFail)]
theorem crQ_ok : CRSound Tryd.prog crQ ∧ Up crQ := tabR_cons (tabR_cons (tabR_nil _) cFail_ok) fun args H v H' h => (cRel_some h).1
theorem crQ_union : crQ 42 = cRel (RRd 42 spU) := rfl
theorem crQ_fail : crQ 43 = cFail := rfl
def nzQ : Nat → Option (List (Nat × Nat))
  | 8 => some [(4, 9), (8, 9)]
  | _ => none
theorem lookDParse (X) : lookedAt (EX md0 X) nzQ 1 Tryd.f19 = true := by kernel_rfl
theorem pG_loose {s : List UInt8} {P : Int} {U J} (h : ¬ (s.length : Int) ≤ P) (hb : byteN s P = 41) (hJ : J ≠ []) : pG s P U J [] = (zeroN, P, 3) := by
  rw [pG_eq, if_neg h, hb, if_neg (by decide), if_neg (by decide), if_neg (by decide), if_neg hJ, if_neg (by decide), if_neg (by decide), if_neg (by decide), if_neg (by simp)]
theorem dparse_ok (s : List UInt8) : Ok Tryd.prog 19 [.str s] (.tup [nodeV (parseN s).1, .int .i64 (parseN s).2.1, .int .i64 (parseN s).2.2]) := by
  refine ok_of_WP (E := EX md0 XRd) (cr := crQ) XRd_ok crQ_ok mixed (k := 10) (nz := nzQ) Tryd.func19 (lookDParse _) rfl ?_
  rw [parseN_pG]
  have hz : nodeV zeroN = .agg [.int .i64 0, .int .i64 0, .int .i64 0, .int .i64 0, .sl 0 []] := by rw [nodeV, cNd_mk, slN, cNds_nil]; rfl
  simp only [Tryd.f19, Option.getD_some]
  by_cases h200 : 200 < s.length
  · rw [if_pos h200]
    have h2 : (200 : Int) < s.length := by omega
    simp only [hz]
    simp (disch := omega) only [go_sem, ↓IntWalk.iteOmega, IntWalk.toNatUp, Nat.reduceEqDiff, Nat.reduceAdd, Nat.reduceMul, Nat.reduceSub, Nat.reduceLT, Nat.reduceLeDiff, Int.reduceToNat, Int.reduceLT, Int.reduceLE, Int.reduceEq, Int.reduceAdd, Int.reduceSub, Int.reduceMul, Int.toNat_natCast, reduceCtorEq, decide_true, decide_false, IntWalk.i64_in, IntWalk.u64_in, IntWalk.u8_in, h2]
  · rw [if_neg h200]
    have h2 : ¬ (200 : Int) < s.length := by omega
    have hU := (all_can (s := s) (by omega) (s.length + 1) 0 (by omega)).2
    simp (disch := omega) only [go_sem, ↓IntWalk.iteOmega, IntWalk.toNatUp, Nat.reduceEqDiff, Nat.reduceAdd, Nat.reduceMul, Nat.reduceSub, Nat.reduceLT, Nat.reduceLeDiff, Int.reduceToNat, Int.reduceLT, Int.reduceLE, Int.reduceEq, Int.reduceAdd, Int.reduceSub, Int.reduceMul, Int.toNat_natCast, reduceCtorEq, decide_true, decide_false, IntWalk.i64_in, IntWalk.u64_in, IntWalk.u8_in, h2, crQ_union]
    refine rd_call (s := s) (P := 0) (d := 0) (hU _ _ _ 0 0 (by omega) (by omega) (by omega) (by omega) (by omega) ⟨by omega, upd_same _ _ _⟩) ⟨by omega, upd_same _ _ _⟩ (fun n o1 nx1 k1 k2 k3 => ?_)
    have o12 : o1 (0, 2) = some (.row ⟨29, 1, (0, 2), false, true, nd0⟩) := by rw [k2 0 2 (by omega) (by simp)]; simp [upd_app]
    obtain ⟨nk, ns, nlo, nhi, nl⟩ := n
    rcases k3 with ⟨x, ⟨q1, q2, q3, q5⟩, q4⟩ | ⟨x, d', e, q1, q2, q3⟩
    · obtain ⟨U, J, g4, g5, g6⟩ := q5 [] rfl
      have hrow := q4.row
      by_cases hend : (s.length : Int) ≤ x
      · rw [g6, pG_eq, if_pos hend, if_neg (by simp [g4]), g5]
        simp (disch := omega) only [go_sem, ↓IntWalk.iteOmega, IntWalk.toNatUp, Nat.reduceEqDiff, Nat.reduceAdd, Nat.reduceMul, Nat.reduceSub, Nat.reduceLT, Nat.reduceLeDiff, Int.reduceToNat, Int.reduceLT, Int.reduceLE, Int.reduceEq, Int.reduceAdd, Int.reduceSub, Int.reduceMul, Int.toNat_natCast, reduceCtorEq, decide_true, decide_false, IntWalk.i64_in, IntWalk.u64_in, IntWalk.u8_in, o12, hrow, nzQ]
        rw [nodeV, cNd_mk]
      · have h41 := q3.resolve_left hend
        rw [g6, pG_loose hend h41 g4]
        have hlt : x < (s.length : Int) := by omega
        simp (disch := omega) only [go_sem, ↓IntWalk.iteOmega, IntWalk.toNatUp, Nat.reduceEqDiff, Nat.reduceAdd, Nat.reduceMul, Nat.reduceSub, Nat.reduceLT, Nat.reduceLeDiff, Int.reduceToNat, Int.reduceLT, Int.reduceLE, Int.reduceEq, Int.reduceAdd, Int.reduceSub, Int.reduceMul, Int.toNat_natCast, reduceCtorEq, decide_true, decide_false, IntWalk.i64_in, IntWalk.u64_in, IntWalk.u8_in, o12, hrow, crQ_fail, nzQ, hlt]
        refine fail_call (r := 2) (P := x) (d := 0) (e := 0) (s := s) ⟨by omega, by simp [upd_app, hrow]⟩ (fun o2 nx2 g1 g2 g3 => ?_)
        have hrow2 := g3.row
        have o22 : o2 (0, 2) = some (.row ⟨29, 1, (0, 2), false, true, nd0⟩) := by rw [g2 0 2 (by omega) (by simp)]; simp [upd_app, o12]
        simp (disch := omega) only [go_sem, ↓IntWalk.iteOmega, IntWalk.toNatUp, Nat.reduceEqDiff, Nat.reduceAdd, Nat.reduceMul, Nat.reduceSub, Nat.reduceLT, Nat.reduceLeDiff, Int.reduceToNat, Int.reduceLT, Int.reduceLE, Int.reduceEq, Int.reduceAdd, Int.reduceSub, Int.reduceMul, Int.toNat_natCast, reduceCtorEq, decide_true, decide_false, IntWalk.i64_in, IntWalk.u64_in, IntWalk.u8_in, hrow2, o22, nzQ, hlt]
        rw [hz]
    · rw [q2 [] rfl]
      have hrow := q3.row
      simp (disch := omega) only [go_sem, ↓IntWalk.iteOmega, IntWalk.toNatUp, Nat.reduceEqDiff, Nat.reduceAdd, Nat.reduceMul, Nat.reduceSub, Nat.reduceLT, Nat.reduceLeDiff, Int.reduceToNat, Int.reduceLT, Int.reduceLE, Int.reduceEq, Int.reduceAdd, Int.reduceSub, Int.reduceMul, Int.toNat_natCast, reduceCtorEq, decide_true, decide_false, IntWalk.i64_in, IntWalk.u64_in, IntWalk.u8_in, o12, hrow, q1, nzQ]
      rw [hz]
end Go.Proofs.YtmcbfbpdfbcakaaDoor.A
/- RegexReads: a text is not empty; bytes of a string; the table. -/
namespace Go.Proofs.YtmcbfbpdfbcakaaDoor.A
open Go
set_option maxRecDepth 20000
theorem set_pos : ∀ q : Fin 31, 1 ≤ (setS (q.1 + 1)).length := by decide +kernel
theorem text_pos : ∀ (n : Nd) (w : Int), rightN n = true → 1 ≤ (textN w n).length
  | .mk k s lo hi l, w, hr => by
    obtain ⟨hx, hc⟩ := right_cases hr
    have hkid : ∀ x ∈ l, 1 ≤ (textN w (.mk k s lo hi l)).length := fun x hm => by
      have : SizeOf.sizeOf x < SizeOf.sizeOf (Nd.mk k s lo hi l) := by
        have := List.sizeOf_lt_of_mem hm
        simp only [Nd.mk.sizeOf_spec]
        omega
      exact Nat.le_trans (text_pos x k (hx x hm)) (text_kid hr hm)
    rcases hc with ⟨rfl, rfl, rfl, rfl, h0, h1⟩ | ⟨hk, rfl, rfl, rfl, rfl⟩ | ⟨hk, rfl, rfl, rfl, y1, y2, r, rfl⟩ | ⟨hk, rfl, rfl, rfl, x, rfl⟩ | ⟨rfl, rfl, h0, h1, h2, x, rfl⟩
    · rw [textN, if_pos rfl]
      have := set_pos ⟨s.toNat - 1, by omega⟩
      rw [show s.toNat - 1 + 1 = s.toNat by omega] at this
      exact this
    · rcases hk with rfl | rfl
      · rw [textN, if_neg (by decide), if_pos rfl]; simp
      · rw [textN, if_neg (by decide), if_neg (by decide), if_pos rfl]; simp
    · exact hkid y1 (by simp)
    · exact hkid x (by simp)
    · exact hkid x (by simp)
termination_by n => SizeOf.sizeOf n
decreasing_by
  exact this
/-! ### bytes -/
def cY (bs : List UInt8) : List AV := bs.map fun b => .int .u8 b.toNat
theorem cY_len (bs) : (cY bs).length = bs.length := by simp [cY]
theorem cY_get {l : List UInt8} {i s : Nat} (h : i < l.length) : take1 false s ((cY l).drop i) = some (.int .u8 (l.getD i 0).toNat) := by
  rw [take1_drop (by simpa [cY] using h)]; simp [cY, List.getD, h]
theorem cY_set (l : List UInt8) (i) (x : UInt8) (h : i < l.length) : splice (cY l) i [.int .u8 x.toNat] = cY (l.set i x) := by
  rw [splice_eq _ _ _ (by simpa [cY] using h)]; simp [cY, List.map_set]
theorem wrap_byte (n : Int) : ∃ b : UInt8, IntKind.u8.wrap n = (b.toNat : Int) := by
  have e : IntKind.u8.wrap n = n % 256 := by simp [IntKind.wrap, IntKind.bits, IntKind.signed]
  refine ⟨UInt8.ofNat (n % 256).toNat, ?_⟩
  rw [e, UInt8.toNat_ofNat']
  omega
theorem cv_str (tg : Tag) (s : List UInt8) (o : Ob) (nx : Nat) : aConvert Tryd.prog tg 9 31 (.str s) ⟨o, nx⟩ = some (.ref tg tg 0 s.length, ⟨upd o tg (.row ⟨5, 1, tg, false, false, cY s⟩), nx⟩) := by
  have e1 : Tryd.prog.underlying 9 = some .string := by kernel_rfl
  have e2 : Tryd.prog.underlying 31 = some (.slice 5) := by kernel_rfl
  have e3 : Tryd.prog.underlying 5 = some (.int .u8) := by kernel_rfl
  unfold aConvert
  rw [e1, e2]
  simp only [e3]
  rfl
theorem isStr_9 : isStr (Tryd.prog.underlying 9) = true := by
  rw [show Tryd.prog.underlying 9 = some .string by kernel_rfl]; rfl
/-! ### the table -/
def RWb (args : List AV) (r : AV) : Prop := ∃ a n : Int, 0 < n ∧ n ≤ 100000000 ∧ args = [.int .i64 a, .int .i64 n] ∧ r = .int .i64 (a % n)
theorem RWb_fn : Fun1 RWb := by
  rintro args r r' ⟨a, n, _, _, rfl, rfl⟩ ⟨a', n', _, _, h, rfl⟩
  simp only [List.cons.injEq, AV.int.injEq, true_and, and_true] at h
  rw [h.1, h.2]
theorem lookWb (X) : lookedAt (EX md0 X) (fun _ => none) 2 Tryd.f17 = true := by kernel_rfl
theorem withinB_ok (args r) (h : RWb args r) : Ok Tryd.prog 17 args r := by
  obtain ⟨a, n, h1, h2, rfl, rfl⟩ := h
  refine ok_of_WP (E := EX md0 (fun _ _ => none)) (cr := noR) (tab_nil _) (noR_ok _) mixed (k := 0) Tryd.func17 (lookWb _) rfl ?_
  rw [mod_of a n h1]
  obtain ⟨h3, h4⟩ := tmod_in a n h1
  simp only [Tryd.f17, Option.getD_some]
  by_cases hc : a.tmod n < 0
  · rw [if_pos hc]
    simp (disch := omega) only [go_sem, ↓IntWalk.iteOmega, IntWalk.toNatUp, Nat.reduceEqDiff, Nat.reduceAdd, Nat.reduceMul, Nat.reduceSub, Nat.reduceLT, Nat.reduceLeDiff, Int.reduceToNat, Int.reduceLT, Int.reduceLE, Int.reduceEq, Int.reduceAdd, Int.reduceSub, Int.reduceMul, Int.toNat_natCast, reduceCtorEq, decide_true, decide_false, IntWalk.i64_in, IntWalk.u64_in, IntWalk.u8_in, hc]
  · rw [if_neg hc]
    simp (disch := omega) only [go_sem, ↓IntWalk.iteOmega, IntWalk.toNatUp, Nat.reduceEqDiff, Nat.reduceAdd, Nat.reduceMul, Nat.reduceSub, Nat.reduceLT, Nat.reduceLeDiff, Int.reduceToNat, Int.reduceLT, Int.reduceLE, Int.reduceEq, Int.reduceAdd, Int.reduceSub, Int.reduceMul, Int.toNat_natCast, reduceCtorEq, decide_true, decide_false, IntWalk.i64_in, IntWalk.u64_in, IntWalk.u8_in, hc]
theorem RParse_dok (args r) (h : RParse args r) : Ok Tryd.prog 19 args r := by obtain ⟨s, rfl, rfl⟩ := h; exact dparse_ok s
noncomputable def XRr : FuncId → List AV → Option AV := tabLook [(13, tRel RKn4), (14, tRel RFw), (16, tRel ROn), (15, tRel RText), (18, tRel RParse), (19, tRel RParse), (20, tRel RSame4), (17, tRel RWb)]
theorem XRr_ok : CPSound Tryd.prog XRr := tab_cons (tab_cons (tab_cons (tab_cons (tab_cons (tab_cons (tab_cons (tab_cons (tab_nil _) (tRel_ok withinB_ok)) (tRel_ok RSame4_ok)) (tRel_ok RParse_dok)) (tRel_ok RParse_ok)) (tRel_ok RText_dok)) (tRel_ok ROn_ok)) (tRel_ok RFw_ok)) (tRel_ok RKn4_ok)
theorem XRr_known : XRr 13 [] = some (.bool true) := tRel_eq (R := RKn4) RKn4_fn ⟨rfl, rfl⟩
theorem XRr_few (l) : XRr 14 [slR l] = some (.bool (fewR l)) := tRel_eq (R := RFw) RFw_fn ⟨_, rfl, rfl⟩
theorem XRr_one (l) : XRr 16 [slR l] = some (nodeV (oneN l)) := tRel_eq (R := ROn) ROn_fn ⟨_, rfl, rfl⟩
theorem XRr_text {n : Nd} (h1 : rightN n = true) (h2 : wideN n = true) (h3 : (textN 0 n).length ≤ 100000000) : XRr 15 [nodeV n] = some (.str (textN 0 n)) := tRel_eq (R := RText) RText_fn ⟨_, h1, h2, h3, rfl, rfl⟩
theorem XRr_parse (s : List UInt8) : XRr 18 [.str s] = some (.tup [nodeV (parseN s).1, .int .i64 (parseN s).2.1, .int .i64 (parseN s).2.2]) := tRel_eq (R := RParse) RParse_fn ⟨_, rfl, rfl⟩
theorem XRr_dparse (s : List UInt8) : XRr 19 [.str s] = some (.tup [nodeV (parseN s).1, .int .i64 (parseN s).2.1, .int .i64 (parseN s).2.2]) := tRel_eq (R := RParse) RParse_fn ⟨_, rfl, rfl⟩
theorem XRr_same (s : List UInt8) : XRr 20 [nodeV (parseN s).1, nodeV (parseN s).1] = some (.bool true) := by
  refine tRel_eq (R := RSame4) RSame4_fn ⟨_, ?_, rfl, rfl⟩
  by_cases h : (parseN s).2.2 = 0
  · exact (parse_right h).2.1
  · rw [(parse_good s).2 h]; decide
theorem XRr_within (a n : Int) (h1 : 0 < n) (h2 : n ≤ 100000000) : XRr 17 [.int .i64 a, .int .i64 n] = some (.int .i64 (a % n)) := tRel_eq (R := RWb) RWb_fn ⟨a, n, h1, h2, rfl, rfl⟩
end Go.Proofs.YtmcbfbpdfbcakaaDoor.A
/- Arguments that read are data: parts, fields; machines of one way. -/
namespace Go.Proofs.YtmcbfbpdfbcakaaDoor.A
open Go
set_option maxRecDepth 20000
theorem shaped_fields {P : Program} {d : Nat} {t : TypeId} {fs : Array Field} (hu : P.underlying t = some (.struct fs)) {xs : List AV} (h : Shaped P d t xs) : ∃ (d' : Nat) (parts : List (List AV)), xs = parts.flatten ∧ parts.length = fs.toList.length ∧ ∀ (i : Nat) (f : Field) (p : List AV), fs.toList[i]? = some f → parts[i]? = some p → Shaped P d' f.type p := by
  cases d with
  | zero => exact h.elim
  | succ d =>
    unfold Shaped at h
    rw [hu] at h
    obtain ⟨parts, h1, h2, h3⟩ := h
    exact ⟨d, parts, h1, by simpa using h2, fun i f p hf hp => h3 i f p (by simpa using hf) hp⟩
theorem shaped_slice {P : Program} {d : Nat} {t e : TypeId} (hu : P.underlying t = some (.slice e)) {xs : List AV} (h : Shaped P d t xs) : ∃ (d' : Nat) (parts : List (List AV)), xs = [.sl parts.length parts.flatten] ∧ parts.length ≤ maxLen ∧ ∀ p ∈ parts, Shaped P d' e p := by
  cases d with
  | zero => exact h.elim
  | succ d =>
    unfold Shaped at h
    rw [hu] at h
    obtain ⟨parts, h1, h2, h3⟩ := h
    exact ⟨d, parts, h1, h2, h3⟩
noncomputable def fieldsOf (t : TypeId) : Array Field := match Tryd.prog.underlying t with | some (.struct fs) => fs | _ => #[]
theorem shaped_bool {P : Program} {d : Nat} {t : TypeId} {xs : List AV} (hu : P.underlying t = some .bool) (h : Shaped P d t xs) : ∃ b, xs = [.bool b] := by
  cases d with
  | zero => exact h.elim
  | succ d =>
    unfold Shaped at h
    rw [hu] at h
    exact h
theorem shaped_arr {P : Program} {d : Nat} {t i : TypeId} {n : Nat} (hu : P.underlying t = some (.array n i)) (hi : P.underlying i = some (.int .i64)) {xs : List AV} (h : Shaped P d t xs) : ∃ l : List Int, l.length = n ∧ xs = cI l := by
  cases d with
  | zero => exact h.elim
  | succ d =>
    unfold Shaped at h
    rw [hu] at h
    obtain ⟨parts, rfl, hl, hp⟩ := h
    obtain ⟨ns, h3, h4⟩ := ints_of hi parts hp
    exact ⟨ns, by rw [← h3]; simpa using hl, h4⟩
theorem parts_I {n : Nat} : ∀ {parts : List (List AV)}, (∀ p ∈ parts, ∃ l : List Int, l.length = n ∧ p = cI l) → ∃ N : List Int, N.length = n * parts.length ∧ parts.flatten = cI N
  | [], _ => ⟨[], rfl, rfl⟩
  | p :: parts, h => by
    obtain ⟨l, h0, rfl⟩ := h p (List.mem_cons_self ..)
    obtain ⟨N, h1, h2⟩ := parts_I (fun q hq => h q (List.mem_cons_of_mem _ hq))
    exact ⟨l ++ N, by rw [List.length_append, h0, h1, List.length_cons, Nat.mul_succ, Nat.add_comm], by rw [cI_app, List.flatten_cons, h2]⟩
theorem parts_B : ∀ {parts : List (List AV)}, (∀ p ∈ parts, ∃ b, p = [AV.bool b]) → ∃ A : List Bool, A.length = parts.length ∧ parts.flatten = cB A
  | [], _ => ⟨[], rfl, rfl⟩
  | p :: parts, h => by
    obtain ⟨b, rfl⟩ := h p (List.mem_cons_self ..)
    obtain ⟨A, h1, h2⟩ := parts_B (fun q hq => h q (List.mem_cons_of_mem _ hq))
    exact ⟨b :: A, by simp [h1], by simp [cB, h2]⟩
end Go.Proofs.YtmcbfbpdfbcakaaDoor.A
/- Arguments that read are data: machines, raw expressions. -/
namespace Go.Proofs.YtmcbfbpdfbcakaaDoor.A
open Go
set_option maxRecDepth 20000
/-! ### a machine that came in -/
theorem shaped_three {P : Program} {d : Nat} {t i : TypeId} {fs : Array Field} (hu : P.underlying t = some (.struct fs)) (hf : fs.toList.map (·.type) = [i, i, i]) (hi : P.underlying i = some (.int .i64)) {xs : List AV} (h : Shaped P d t xs) : ∃ a b c, xs = [.int .i64 a, .int .i64 b, .int .i64 c] := by
  obtain ⟨d', parts, rfl, hl, hp⟩ := shaped_fields hu h
  have hl3 : fs.toList.length = 3 := by have := congrArg List.length hf; simpa using this
  match hfs : fs.toList, hl3 with
  | [f1, f2, f3], _ =>
    rw [hfs] at hl hp hf
    simp only [List.map_cons, List.map_nil, List.cons.injEq, and_true] at hf
    obtain ⟨e1, e2, e3⟩ := hf
    match parts, hl with
    | [p1, p2, p3], _ =>
      obtain ⟨a, rfl⟩ := shaped_int hi (e1 ▸ hp 0 f1 p1 rfl rfl)
      obtain ⟨b, rfl⟩ := shaped_int hi (e2 ▸ hp 1 f2 p2 rfl rfl)
      obtain ⟨c, rfl⟩ := shaped_int hi (e3 ▸ hp 2 f3 p3 rfl rfl)
      exact ⟨a, b, c, rfl⟩
theorem shaped_two {P : Program} {d : Nat} {t i : TypeId} (hu : P.underlying t = some (.array 2 i)) (hi : P.underlying i = some (.int .i64)) {xs : List AV} (h : Shaped P d t xs) : ∃ a b, xs = [.int .i64 a, .int .i64 b] := by
  cases d with
  | zero => exact h.elim
  | succ d =>
    unfold Shaped at h
    rw [hu] at h
    obtain ⟨parts, rfl, hl, hp⟩ := h
    match parts, hl with
    | [p1, p2], _ =>
      obtain ⟨a, rfl⟩ := shaped_int hi (hp p1 (by simp))
      obtain ⟨b, rfl⟩ := shaped_int hi (hp p2 (by simp))
      exact ⟨a, b, rfl⟩
theorem parts_S : ∀ {parts : List (List AV)}, (∀ p ∈ parts, ∃ a b c, p = [.int .i64 a, .int .i64 b, .int .i64 c]) → ∃ ss : List (Int × Int × Int), ss.length = parts.length ∧ parts.flatten = cS ss
  | [], _ => ⟨[], rfl, rfl⟩
  | p :: parts, h => by
    obtain ⟨a, b, c, rfl⟩ := h p (List.mem_cons_self ..)
    obtain ⟨ss, h1, h2⟩ := parts_S (fun q hq => h q (List.mem_cons_of_mem _ hq))
    exact ⟨(a, b, c) :: ss, by simp [h1], by simp [cS, h2]⟩
theorem parts_P : ∀ {parts : List (List AV)}, (∀ p ∈ parts, ∃ a b, p = [.int .i64 a, .int .i64 b]) → ∃ ss : List (Int × Int), ss.length = parts.length ∧ parts.flatten = cP ss
  | [], _ => ⟨[], rfl, rfl⟩
  | p :: parts, h => by
    obtain ⟨a, b, rfl⟩ := h p (List.mem_cons_self ..)
    obtain ⟨ss, h1, h2⟩ := parts_P (fun q hq => h q (List.mem_cons_of_mem _ hq))
    exact ⟨(a, b) :: ss, by simp [h1], by simp [cP, h2]⟩
/-! ### raw expressions that came in -/
theorem shaped_slice' {P : Program} {d : Nat} {t e : TypeId} (hu : P.underlying t = some (.slice e)) {xs : List AV} (h : Shaped P d t xs) : ∃ (d' : Nat) (parts : List (List AV)), d' < d ∧ xs = [.sl parts.length parts.flatten] ∧ parts.length ≤ maxLen ∧ ∀ p ∈ parts, Shaped P d' e p := by
  cases d with
  | zero => exact h.elim
  | succ d =>
    unfold Shaped at h
    rw [hu] at h
    obtain ⟨parts, h1, h2, h3⟩ := h
    exact ⟨d, parts, Nat.lt_succ_self d, h1, h2, h3⟩
theorem shaped_fields' {P : Program} {d : Nat} {t : TypeId} {fs : Array Field} (hu : P.underlying t = some (.struct fs)) {xs : List AV} (h : Shaped P d t xs) : ∃ (d' : Nat) (parts : List (List AV)), d' < d ∧ xs = parts.flatten ∧ parts.length = fs.toList.length ∧ ∀ (i : Nat) (f : Field) (p : List AV), fs.toList[i]? = some f → parts[i]? = some p → Shaped P d' f.type p := by
  cases d with
  | zero => exact h.elim
  | succ d =>
    unfold Shaped at h
    rw [hu] at h
    obtain ⟨parts, h1, h2, h3⟩ := h
    exact ⟨d, parts, Nat.lt_succ_self d, h1, by simpa using h2, fun i f p hf hp => h3 i f p (by simpa using hf) hp⟩
theorem parts_R : ∀ {parts : List (List AV)}, (∀ p ∈ parts, ∃ r, p = cRw r) → ∃ l : List Rw, l.length = parts.length ∧ parts.flatten = cRws l
  | [], _ => ⟨[], rfl, by rw [cRws_nil]; rfl⟩
  | p :: parts, h => by
    obtain ⟨r, rfl⟩ := h p (List.mem_cons_self ..)
    obtain ⟨l, h1, h2⟩ := parts_R (fun q hq => h q (List.mem_cons_of_mem _ hq))
    exact ⟨r :: l, by simp [h1], by rw [cRws_cons, List.flatten_cons, h2]⟩
theorem shaped_raw : ∀ (d : Nat) (xs : List AV), Shaped Tryd.prog d 56 xs → ∃ r, xs = cRw r := by
  have hu : Tryd.prog.underlying 56 = some (.struct (fieldsOf 56)) := by kernel_rfl
  have hi : Tryd.prog.underlying 3 = some (.int .i64) := by kernel_rfl
  have hf : (fieldsOf 56).toList.map (·.type) = [3, 3, 22] := by kernel_rfl
  have hsl : Tryd.prog.underlying 22 = some (.slice 56) := by kernel_rfl
  intro d
  induction d using Nat.strongRecOn with
  | ind d ih =>
    intro xs h
    obtain ⟨d', parts, hd, rfl, hl, hp⟩ := shaped_fields' hu h
    generalize fieldsOf 56 = fl at *
    have hl3 : fl.toList.length = 3 := by have := congrArg List.length hf; simpa using this
    match hfl : fl.toList, hl3 with
    | [f1, f2, f3], _ =>
      rw [hfl] at hl hp hf
      simp only [List.map_cons, List.map_nil, List.cons.injEq, and_true] at hf
      obtain ⟨e1, e2, e3⟩ := hf
      match parts, hl with
      | [p1, p2, p3], _ =>
        obtain ⟨a, rfl⟩ := shaped_int hi (e1 ▸ hp 0 f1 p1 rfl rfl)
        obtain ⟨b, rfl⟩ := shaped_int hi (e2 ▸ hp 1 f2 p2 rfl rfl)
        obtain ⟨d4, q4, hd4, rfl, _, h4⟩ := shaped_slice' hsl (e3 ▸ hp 2 f3 p3 rfl rfl)
        obtain ⟨l, s1, s2⟩ := parts_R (fun p hp => ih d4 (by omega) p (h4 p hp))
        exact ⟨.mk a b l, by rw [cRw_mk, slR, s1, s2.symm]; rfl⟩
theorem arg_raws {x : AV} (h : ArgOf Tryd.prog 22 x) : ∃ l, x = slR l := by
  have hsl : Tryd.prog.underlying 22 = some (.slice 56) := by kernel_rfl
  unfold ArgOf at h
  rw [hsl] at h
  obtain ⟨d, h⟩ := h
  obtain ⟨d4, q4, _, e, _, h4⟩ := shaped_slice' hsl h
  obtain ⟨l, s1, s2⟩ := parts_R (fun p hp => shaped_raw d4 p (h4 p hp))
  injection e with e _
  exact ⟨l, by rw [e, slR, s1, s2]⟩
end Go.Proofs.YtmcbfbpdfbcakaaDoor.A
namespace Go.Proofs.YtmcbfbpdfbcakaaDoor.A
open Go
set_option maxRecDepth 20000
def litS : List AV := [.str [119], .str [98], .str [40], .str [41], .str [124], .str [42], .str [43], .str [63], .str [123, 49, 44, 50, 125], .str [123], .str [125], .str [91], .str [93], .str [48], .str [95], .str [46], .str [123, 50, 44, 49, 125], .str [99], .str [91, 119, 98, 93], .str [120], .str [102], .str [116], .str [124], .str [41], .str [40]]
theorem cT_get {l : List (List UInt8)} {i s : Nat} (h : i < l.length) : take1 false s ((l.map AV.str).drop i) = some (.str (l.getD i [])) := by
  rw [take1_drop (by simpa using h)]; simp [List.getD, h]
theorem litS_len : litS.length = 25 := rfl
theorem lit_build (tg o nx) : aBuildSlice Tryd.prog tg 33 25 [(0, .str [119]), (1, .str [98]), (2, .str [40]), (3, .str [41]), (4, .str [124]), (5, .str [42]), (6, .str [43]), (7, .str [63]), (8, .str [123, 49, 44, 50, 125]), (9, .str [123]), (10, .str [125]), (11, .str [91]), (12, .str [93]), (13, .str [48]), (14, .str [95]), (15, .str [46]), (16, .str [123, 50, 44, 49, 125]), (17, .str [99]), (18, .str [91, 119, 98, 93]), (19, .str [120]), (20, .str [102]), (21, .str [116]), (22, .str [124]), (23, .str [41]), (24, .str [40])] ⟨o, nx⟩ = some (.ref tg tg 0 25, ⟨upd o tg (.row ⟨9, 1, tg, false, true, litS⟩), nx⟩) := by
  show aBuildSlice Tryd.prog tg 33 25 _ ⟨o, nx⟩ = _
  rw [T33bs]
  rfl
attribute [-go_sem] T33bs
theorem lit_at (w : Int) (h0 : 0 ≤ w) (h1 : w < 25) : ∃ t : List UInt8, t.length ≤ 5 ∧ take1 false 1 (litS.drop w.toNat) = some (.str t) := by
  have hn : w.toNat < 25 := by omega
  generalize w.toNat = n at hn ⊢
  match n, hn with
  | 0, _ => refine ⟨_, ?_, rfl⟩; decide
  | 1, _ => refine ⟨_, ?_, rfl⟩; decide
  | 2, _ => refine ⟨_, ?_, rfl⟩; decide
  | 3, _ => refine ⟨_, ?_, rfl⟩; decide
  | 4, _ => refine ⟨_, ?_, rfl⟩; decide
  | 5, _ => refine ⟨_, ?_, rfl⟩; decide
  | 6, _ => refine ⟨_, ?_, rfl⟩; decide
  | 7, _ => refine ⟨_, ?_, rfl⟩; decide
  | 8, _ => refine ⟨_, ?_, rfl⟩; decide
  | 9, _ => refine ⟨_, ?_, rfl⟩; decide
  | 10, _ => refine ⟨_, ?_, rfl⟩; decide
  | 11, _ => refine ⟨_, ?_, rfl⟩; decide
  | 12, _ => refine ⟨_, ?_, rfl⟩; decide
  | 13, _ => refine ⟨_, ?_, rfl⟩; decide
  | 14, _ => refine ⟨_, ?_, rfl⟩; decide
  | 15, _ => refine ⟨_, ?_, rfl⟩; decide
  | 16, _ => refine ⟨_, ?_, rfl⟩; decide
  | 17, _ => refine ⟨_, ?_, rfl⟩; decide
  | 18, _ => refine ⟨_, ?_, rfl⟩; decide
  | 19, _ => refine ⟨_, ?_, rfl⟩; decide
  | 20, _ => refine ⟨_, ?_, rfl⟩; decide
  | 21, _ => refine ⟨_, ?_, rfl⟩; decide
  | 22, _ => refine ⟨_, ?_, rfl⟩; decide
  | 23, _ => refine ⟨_, ?_, rfl⟩; decide
  | 24, _ => refine ⟨_, ?_, rfl⟩; decide
  | n + 25, h => omega
theorem lookReads (X) : lookedAt (EX md0 X) (fun _ => none) 1 Tryd.f3 = true := by kernel_rfl
theorem reads_ok (l : List Rw) (at_ bi cut : Int) (ns : List Int) (raw : List UInt8) : Ok Tryd.prog 3 [slR l, .int .i64 at_, .int .u8 bi, .int .i64 cut, slI ns, .str raw] (.bool true) := by
  refine ok_of_WP (E := EX md0 XRr) (cr := noR) XRr_ok (noR_ok _) mixed (k := 100) Tryd.func3 (lookReads _) rfl ?_
  have hkn := XRr_known
  have hfw := XRr_few l
  have hon := XRr_one l
  have hwi := XRr_within
  simp only [Tryd.f3, Option.getD_some]
  by_cases hf : fewR l = true
  · rw [hf] at hfw
    by_cases h3 : 300 < raw.length
    · have h3' : (300 : Int) < raw.length := by omega
      simp (disch := omega) only [go_sem, ↓IntWalk.iteOmega, IntWalk.toNatUp, Nat.reduceEqDiff, Nat.reduceAdd, Nat.reduceMul, Nat.reduceSub, Nat.reduceLT, Nat.reduceLeDiff, Int.reduceToNat, Int.reduceLT, Int.reduceLE, Int.reduceEq, Int.reduceAdd, Int.reduceSub, Int.reduceMul, Int.toNat_natCast, reduceCtorEq, decide_true, decide_false, IntWalk.i64_in, IntWalk.u64_in, IntWalk.u8_in, hkn, hfw, h3']
    · have h3' : ¬ (300 : Int) < raw.length := by omega
      obtain ⟨t1, t2, _, t3, _⟩ := one_all hf
      have htx := XRr_text t1 t2 (by have := t3 0; omega)
      have hpos := text_pos (oneN l) 0 t1
      have hmax := t3 0
      generalize textN 0 (oneN l) = s at *
      clear t3 t1 t2
      generalize oneN l = x at *
      obtain ⟨kk, se, lo, hi, c⟩ := x
      simp only [nodeV, cNd_mk] at hon htx
      have w1 := hwi at_ s.length (by omega) (by omega)
      have b0 := Int.emod_nonneg at_ (show (s.length : Int) ≠ 0 by omega)
      have b1 := Int.emod_lt_of_pos at_ (show (0 : Int) < s.length by omega)
      have w2 := hwi cut (s.length + 1) (by omega) (by omega)
      have c0 := Int.emod_nonneg cut (show (s.length + 1 : Int) ≠ 0 by omega)
      have c1 := Int.emod_lt_of_pos cut (show (0 : Int) < s.length + 1 by omega)
      have e25 : ∀ y : Int, XRr 17 [.int .i64 y, .int .i64 25] = some (.int .i64 (y % 25)) := fun y => hwi y 25 (by omega) (by omega)
      generalize at_ % (s.length : Int) = k0 at *
      generalize cut % (s.length + 1 : Int) = k1 at *
      have hcs := cv_str
      have hat := cY_get (l := s) (i := k0.toNat) (s := 1) (by omega)
      have hset := fun b => cY_set s k0.toNat b (by omega)
      obtain ⟨nb, hnb⟩ := wrap_byte (((s.getD k0.toNat 0).toNat : Int) + bi)
      generalize s.getD k0.toNat 0 = ob at *
      have hlY := cY_len s
      simp (disch := omega) only [go_sem, ↓IntWalk.iteOmega, IntWalk.toNatUp, Nat.reduceEqDiff, Nat.reduceAdd, Nat.reduceMul, Nat.reduceSub, Nat.reduceLT, Nat.reduceLeDiff, Int.reduceToNat, Int.reduceLT, Int.reduceLE, Int.reduceEq, Int.reduceAdd, Int.reduceSub, Int.reduceMul, Int.toNat_natCast, reduceCtorEq, decide_true, decide_false, IntWalk.i64_in, IntWalk.u64_in, IntWalk.u8_in, hkn, hfw, h3', hon, htx, w1, w2, hcs, hat, hset, hnb, hlY]
      have hlt : (s.set k0.toNat nb).length = s.length := by simp
      generalize s.set k0.toNat nb = t at *
      refine WP_loop (fun mm a o nx => ∃ (i : Nat) (m : List UInt8), i ≤ ns.length ∧ i ≤ 30 ∧ mm = 30 - i ∧ 5 ≤ nx ∧ m.length ≤ 5 * i ∧ a 4 = slI ns ∧ a 5 = .str raw ∧ a 13 = .str s ∧ a 14 = .ref (4, 40) (4, 40) 0 s.length ∧ a 15 = .int .i64 k1 ∧ a 16 = .str m ∧ a 17 = .int .i64 i ∧ o (4, 40) = some (.row ⟨5, 1, (4, 40), false, false, cY t⟩)) 30 (by omega) ⟨0, [], by omega, by omega, rfl, by omega, by simp, by simp (disch := omega) only [go_sem, ↓IntWalk.iteOmega, IntWalk.toNatUp, Nat.reduceEqDiff, Nat.reduceAdd, Nat.reduceMul, Nat.reduceSub, Nat.reduceLT, Nat.reduceLeDiff, Int.reduceToNat, Int.reduceLT, Int.reduceLE, Int.reduceEq, Int.reduceAdd, Int.reduceSub, Int.reduceMul, Int.toNat_natCast, reduceCtorEq, decide_true, decide_false, IntWalk.i64_in, IntWalk.u64_in, IntWalk.u8_in], by simp (disch := omega) only [go_sem, ↓IntWalk.iteOmega, IntWalk.toNatUp, Nat.reduceEqDiff, Nat.reduceAdd, Nat.reduceMul, Nat.reduceSub, Nat.reduceLT, Nat.reduceLeDiff, Int.reduceToNat, Int.reduceLT, Int.reduceLE, Int.reduceEq, Int.reduceAdd, Int.reduceSub, Int.reduceMul, Int.toNat_natCast, reduceCtorEq, decide_true, decide_false, IntWalk.i64_in, IntWalk.u64_in, IntWalk.u8_in], by simp (disch := omega) only [go_sem, ↓IntWalk.iteOmega, IntWalk.toNatUp, Nat.reduceEqDiff, Nat.reduceAdd, Nat.reduceMul, Nat.reduceSub, Nat.reduceLT, Nat.reduceLeDiff, Int.reduceToNat, Int.reduceLT, Int.reduceLE, Int.reduceEq, Int.reduceAdd, Int.reduceSub, Int.reduceMul, Int.toNat_natCast, reduceCtorEq, decide_true, decide_false, IntWalk.i64_in, IntWalk.u64_in, IntWalk.u8_in], by simp (disch := omega) only [go_sem, ↓IntWalk.iteOmega, IntWalk.toNatUp, Nat.reduceEqDiff, Nat.reduceAdd, Nat.reduceMul, Nat.reduceSub, Nat.reduceLT, Nat.reduceLeDiff, Int.reduceToNat, Int.reduceLT, Int.reduceLE, Int.reduceEq, Int.reduceAdd, Int.reduceSub, Int.reduceMul, Int.toNat_natCast, reduceCtorEq, decide_true, decide_false, IntWalk.i64_in, IntWalk.u64_in, IntWalk.u8_in], by simp (disch := omega) only [go_sem, ↓IntWalk.iteOmega, IntWalk.toNatUp, Nat.reduceEqDiff, Nat.reduceAdd, Nat.reduceMul, Nat.reduceSub, Nat.reduceLT, Nat.reduceLeDiff, Int.reduceToNat, Int.reduceLT, Int.reduceLE, Int.reduceEq, Int.reduceAdd, Int.reduceSub, Int.reduceMul, Int.toNat_natCast, reduceCtorEq, decide_true, decide_false, IntWalk.i64_in, IntWalk.u64_in, IntWalk.u8_in], by simp (disch := omega) only [go_sem, ↓IntWalk.iteOmega, IntWalk.toNatUp, Nat.reduceEqDiff, Nat.reduceAdd, Nat.reduceMul, Nat.reduceSub, Nat.reduceLT, Nat.reduceLeDiff, Int.reduceToNat, Int.reduceLT, Int.reduceLE, Int.reduceEq, Int.reduceAdd, Int.reduceSub, Int.reduceMul, Int.toNat_natCast, reduceCtorEq, decide_true, decide_false, IntWalk.i64_in, IntWalk.u64_in, IntWalk.u8_in], by simp (disch := omega) only [go_sem, ↓IntWalk.iteOmega, IntWalk.toNatUp, Nat.reduceEqDiff, Nat.reduceAdd, Nat.reduceMul, Nat.reduceSub, Nat.reduceLT, Nat.reduceLeDiff, Int.reduceToNat, Int.reduceLT, Int.reduceLE, Int.reduceEq, Int.reduceAdd, Int.reduceSub, Int.reduceMul, Int.toNat_natCast, reduceCtorEq, decide_true, decide_false, IntWalk.i64_in, IntWalk.u64_in, IntWalk.u8_in], by simp (disch := omega) only [go_sem, ↓IntWalk.iteOmega, IntWalk.toNatUp, Nat.reduceEqDiff, Nat.reduceAdd, Nat.reduceMul, Nat.reduceSub, Nat.reduceLT, Nat.reduceLeDiff, Int.reduceToNat, Int.reduceLT, Int.reduceLE, Int.reduceEq, Int.reduceAdd, Int.reduceSub, Int.reduceMul, Int.toNat_natCast, reduceCtorEq, decide_true, decide_false, IntWalk.i64_in, IntWalk.u64_in, IntWalk.u8_in]⟩ ?_
      rintro mm a o nx ⟨i, m, hi, hi2, rfl, hnx, hm, a4, a5, a13, a14, a15, a16, a17, ho⟩
      by_cases hlt2 : i < ns.length ∧ i < 30
      · obtain ⟨hlt2, hlt3⟩ := hlt2
        have hat2 := cI_get (s := 1) hlt2
        have hw := e25 (ns.getD i 0)
        have hw0 := Int.emod_nonneg (ns.getD i 0) (show (25 : Int) ≠ 0 by decide)
        have hw1 := Int.emod_lt_of_pos (ns.getD i 0) (show (0 : Int) < 25 by decide)
        generalize ns.getD i 0 = y at *
        generalize y % 25 = w at *
        obtain ⟨u, hu, hlit⟩ := lit_at w hw0 hw1
        simp (disch := omega) only [go_sem, ↓IntWalk.iteOmega, IntWalk.toNatUp, Nat.reduceEqDiff, Nat.reduceAdd, Nat.reduceMul, Nat.reduceSub, Nat.reduceLT, Nat.reduceLeDiff, Int.reduceToNat, Int.reduceLT, Int.reduceLE, Int.reduceEq, Int.reduceAdd, Int.reduceSub, Int.reduceMul, Int.toNat_natCast, reduceCtorEq, decide_true, decide_false, IntWalk.i64_in, IntWalk.u64_in, IntWalk.u8_in, a4, a16, a17, hat2, hw, lit_build, hlit, litS_len]
        exact ⟨_, by omega, i + 1, _, by omega, by omega, rfl, by omega, by rw [List.length_append]; omega, a5, a13, a14, a15, rfl, rfl, ho⟩
      · have hcv : ∀ (tg : Tag) (nx : Nat), aConvert Tryd.prog tg 31 9 (.ref (4, 40) (4, 40) 0 s.length) ⟨o, nx⟩ = some (.str t, ⟨o, nx⟩) := fun tg nx => by
          rw [← hlt]
          exact cv_bytes t ho rfl rfl
        have hk1 : (List.take k1.toNat s).length ≤ s.length := by rw [List.length_take]; omega
        have hk2 : (List.drop k1.toNat s).length ≤ s.length := by rw [List.length_drop]; omega
        have hts : List.take s.length s = s := List.take_length ..
        obtain ⟨S, hS, hSl⟩ : ∃ S : List (List UInt8), [AV.str t, .str (List.take k1.toNat s), .str (List.take k1.toNat s ++ m ++ List.drop k1.toNat s), .str raw, .str m, .str (40 :: (m ++ [41]))] = S.map AV.str ∧ S.length = 6 := ⟨[t, List.take k1.toNat s, List.take k1.toNat s ++ m ++ List.drop k1.toNat s, raw, m, 40 :: (m ++ [41])], rfl, rfl⟩
        by_cases h20 : i < ns.length
        · simp (disch := omega) only [go_sem, ↓IntWalk.iteOmega, IntWalk.toNatUp, Nat.reduceEqDiff, Nat.reduceAdd, Nat.reduceMul, Nat.reduceSub, Nat.reduceLT, Nat.reduceLeDiff, Int.reduceToNat, Int.reduceLT, Int.reduceLE, Int.reduceEq, Int.reduceAdd, Int.reduceSub, Int.reduceMul, Int.toNat_natCast, reduceCtorEq, decide_true, decide_false, IntWalk.i64_in, IntWalk.u64_in, IntWalk.u8_in, hcv, a4, a17, a14, a13, a15, a16, a5, ho, sl_str, isStr_9, hts, Int.toNat_natCast, T33bs]
          rw [hS]
          refine WP_loop (fun mm a o' nx' => ∃ j : Nat, j ≤ 6 ∧ mm = 6 - j ∧ nx + 1 < nx' ∧ a 18 = .ref (nx + 1, 95) (nx + 1, 95) 0 6 ∧ a 19 = .int .i64 j ∧ o' (nx + 1, 95) = some (.row ⟨9, 1, (nx + 1, 95), false, true, S.map AV.str⟩)) 6 (by omega) ⟨0, by omega, by omega, by omega, by simp (disch := omega) only [go_sem, ↓IntWalk.iteOmega, IntWalk.toNatUp, Nat.reduceEqDiff, Nat.reduceAdd, Nat.reduceMul, Nat.reduceSub, Nat.reduceLT, Nat.reduceLeDiff, Int.reduceToNat, Int.reduceLT, Int.reduceLE, Int.reduceEq, Int.reduceAdd, Int.reduceSub, Int.reduceMul, Int.toNat_natCast, reduceCtorEq, decide_true, decide_false, IntWalk.i64_in, IntWalk.u64_in, IntWalk.u8_in], by simp (disch := omega) only [go_sem, ↓IntWalk.iteOmega, IntWalk.toNatUp, Nat.reduceEqDiff, Nat.reduceAdd, Nat.reduceMul, Nat.reduceSub, Nat.reduceLT, Nat.reduceLeDiff, Int.reduceToNat, Int.reduceLT, Int.reduceLE, Int.reduceEq, Int.reduceAdd, Int.reduceSub, Int.reduceMul, Int.toNat_natCast, reduceCtorEq, decide_true, decide_false, IntWalk.i64_in, IntWalk.u64_in, IntWalk.u8_in], by simp (disch := omega) only [go_sem, ↓IntWalk.iteOmega, IntWalk.toNatUp, Nat.reduceEqDiff, Nat.reduceAdd, Nat.reduceMul, Nat.reduceSub, Nat.reduceLT, Nat.reduceLeDiff, Int.reduceToNat, Int.reduceLT, Int.reduceLE, Int.reduceEq, Int.reduceAdd, Int.reduceSub, Int.reduceMul, Int.toNat_natCast, reduceCtorEq, decide_true, decide_false, IntWalk.i64_in, IntWalk.u64_in, IntWalk.u8_in]⟩ ?_
          rintro mm a o' nx' ⟨j, hj, rfl, hnx', a18, a19, ho'⟩
          by_cases hj6 : j < 6
          · have hat3 := cT_get (l := S) (i := j) (s := 1) (by omega)
            have hp := XRr_parse (S.getD j [])
            have hd := XRr_dparse (S.getD j [])
            have hsm := XRr_same (S.getD j [])
            generalize S.getD j [] = r at *
            generalize parseN r = P at *
            obtain ⟨⟨kk, se, lo, hi, c⟩, p, e⟩ := P
            simp only [nodeV, cNd_mk] at hp hd hsm
            have hml : (S.map AV.str).length = 6 := by rw [List.length_map, hSl]
            simp (disch := omega) only [go_sem, ↓IntWalk.iteOmega, IntWalk.toNatUp, Nat.reduceEqDiff, Nat.reduceAdd, Nat.reduceMul, Nat.reduceSub, Nat.reduceLT, Nat.reduceLeDiff, Int.reduceToNat, Int.reduceLT, Int.reduceLE, Int.reduceEq, Int.reduceAdd, Int.reduceSub, Int.reduceMul, Int.toNat_natCast, reduceCtorEq, decide_true, decide_false, IntWalk.i64_in, IntWalk.u64_in, IntWalk.u8_in, a18, a19, ho', hat3, hp, hd, hsm, hml]
            exact ⟨_, by omega, j + 1, by omega, rfl, rfl⟩
          · have hj7 : j = 6 := by omega
            subst hj7
            simp (disch := omega) only [go_sem, ↓IntWalk.iteOmega, IntWalk.toNatUp, Nat.reduceEqDiff, Nat.reduceAdd, Nat.reduceMul, Nat.reduceSub, Nat.reduceLT, Nat.reduceLeDiff, Int.reduceToNat, Int.reduceLT, Int.reduceLE, Int.reduceEq, Int.reduceAdd, Int.reduceSub, Int.reduceMul, Int.toNat_natCast, reduceCtorEq, decide_true, decide_false, IntWalk.i64_in, IntWalk.u64_in, IntWalk.u8_in, a18, a19]
        · simp (disch := omega) only [go_sem, ↓IntWalk.iteOmega, IntWalk.toNatUp, Nat.reduceEqDiff, Nat.reduceAdd, Nat.reduceMul, Nat.reduceSub, Nat.reduceLT, Nat.reduceLeDiff, Int.reduceToNat, Int.reduceLT, Int.reduceLE, Int.reduceEq, Int.reduceAdd, Int.reduceSub, Int.reduceMul, Int.toNat_natCast, reduceCtorEq, decide_true, decide_false, IntWalk.i64_in, IntWalk.u64_in, IntWalk.u8_in, hcv, a4, a17, a14, a13, a15, a16, a5, ho, sl_str, isStr_9, hts, Int.toNat_natCast, T33bs]
          rw [hS]
          refine WP_loop (fun mm a o' nx' => ∃ j : Nat, j ≤ 6 ∧ mm = 6 - j ∧ nx + 1 < nx' ∧ a 18 = .ref (nx + 1, 95) (nx + 1, 95) 0 6 ∧ a 19 = .int .i64 j ∧ o' (nx + 1, 95) = some (.row ⟨9, 1, (nx + 1, 95), false, true, S.map AV.str⟩)) 6 (by omega) ⟨0, by omega, by omega, by omega, by simp (disch := omega) only [go_sem, ↓IntWalk.iteOmega, IntWalk.toNatUp, Nat.reduceEqDiff, Nat.reduceAdd, Nat.reduceMul, Nat.reduceSub, Nat.reduceLT, Nat.reduceLeDiff, Int.reduceToNat, Int.reduceLT, Int.reduceLE, Int.reduceEq, Int.reduceAdd, Int.reduceSub, Int.reduceMul, Int.toNat_natCast, reduceCtorEq, decide_true, decide_false, IntWalk.i64_in, IntWalk.u64_in, IntWalk.u8_in], by simp (disch := omega) only [go_sem, ↓IntWalk.iteOmega, IntWalk.toNatUp, Nat.reduceEqDiff, Nat.reduceAdd, Nat.reduceMul, Nat.reduceSub, Nat.reduceLT, Nat.reduceLeDiff, Int.reduceToNat, Int.reduceLT, Int.reduceLE, Int.reduceEq, Int.reduceAdd, Int.reduceSub, Int.reduceMul, Int.toNat_natCast, reduceCtorEq, decide_true, decide_false, IntWalk.i64_in, IntWalk.u64_in, IntWalk.u8_in], by simp (disch := omega) only [go_sem, ↓IntWalk.iteOmega, IntWalk.toNatUp, Nat.reduceEqDiff, Nat.reduceAdd, Nat.reduceMul, Nat.reduceSub, Nat.reduceLT, Nat.reduceLeDiff, Int.reduceToNat, Int.reduceLT, Int.reduceLE, Int.reduceEq, Int.reduceAdd, Int.reduceSub, Int.reduceMul, Int.toNat_natCast, reduceCtorEq, decide_true, decide_false, IntWalk.i64_in, IntWalk.u64_in, IntWalk.u8_in]⟩ ?_
          rintro mm a o' nx' ⟨j, hj, rfl, hnx', a18, a19, ho'⟩
          by_cases hj6 : j < 6
          · have hat3 := cT_get (l := S) (i := j) (s := 1) (by omega)
            have hp := XRr_parse (S.getD j [])
            have hd := XRr_dparse (S.getD j [])
            have hsm := XRr_same (S.getD j [])
            generalize S.getD j [] = r at *
            generalize parseN r = P at *
            obtain ⟨⟨kk, se, lo, hi, c⟩, p, e⟩ := P
            simp only [nodeV, cNd_mk] at hp hd hsm
            have hml : (S.map AV.str).length = 6 := by rw [List.length_map, hSl]
            simp (disch := omega) only [go_sem, ↓IntWalk.iteOmega, IntWalk.toNatUp, Nat.reduceEqDiff, Nat.reduceAdd, Nat.reduceMul, Nat.reduceSub, Nat.reduceLT, Nat.reduceLeDiff, Int.reduceToNat, Int.reduceLT, Int.reduceLE, Int.reduceEq, Int.reduceAdd, Int.reduceSub, Int.reduceMul, Int.toNat_natCast, reduceCtorEq, decide_true, decide_false, IntWalk.i64_in, IntWalk.u64_in, IntWalk.u8_in, a18, a19, ho', hat3, hp, hd, hsm, hml]
            exact ⟨_, by omega, j + 1, by omega, rfl, rfl⟩
          · have hj7 : j = 6 := by omega
            subst hj7
            simp (disch := omega) only [go_sem, ↓IntWalk.iteOmega, IntWalk.toNatUp, Nat.reduceEqDiff, Nat.reduceAdd, Nat.reduceMul, Nat.reduceSub, Nat.reduceLT, Nat.reduceLeDiff, Int.reduceToNat, Int.reduceLT, Int.reduceLE, Int.reduceEq, Int.reduceAdd, Int.reduceSub, Int.reduceMul, Int.toNat_natCast, reduceCtorEq, decide_true, decide_false, IntWalk.i64_in, IntWalk.u64_in, IntWalk.u8_in, a18, a19]
  · rw [Bool.not_eq_true] at hf
    rw [hf] at hfw
    simp (disch := omega) only [go_sem, ↓IntWalk.iteOmega, IntWalk.toNatUp, Nat.reduceEqDiff, Nat.reduceAdd, Nat.reduceMul, Nat.reduceSub, Nat.reduceLT, Nat.reduceLeDiff, Int.reduceToNat, Int.reduceLT, Int.reduceLE, Int.reduceEq, Int.reduceAdd, Int.reduceSub, Int.reduceMul, Int.toNat_natCast, reduceCtorEq, decide_true, decide_false, IntWalk.i64_in, IntWalk.u64_in, IntWalk.u8_in, hkn, hfw]
theorem arg_str {P : Program} {t : TypeId} {x : AV} (hu : P.underlying t = some .string) (h : ArgOf P t x) : ∃ b, x = .str b := by
  unfold ArgOf at h
  rw [hu] at h
  obtain ⟨d, h⟩ := h
  cases d with
  | zero => exact h.elim
  | succ d =>
    unfold Shaped at h
    rw [hu] at h
    obtain ⟨n, e, _⟩ := h
    injection e with e _
    exact ⟨n, e⟩
end Go.Proofs.YtmcbfbpdfbcakaaDoor.A

namespace Go.Proofs.YtmcbfbpdfbcakaaDoor
open Go Go.Proofs.YtmcbfbpdfbcakaaDoor.A
set_option maxRecDepth 100000 in
theorem regexReads_lifted (os : Os) (started : os.Started) (H : Type) (enc : TypeId × Value → H) :
    ReturnsInHanded {} Tryd.checked os 3 .any (fun w args => (Rows.regexReadsSpec.pre enc Tryd.prog Tryd.f3 [] false w args ∧ laidMetH Tryd.prog laidL w) ∧ sizedMet enc Tryd.prog Tryd.f3 (OpenSpec.ofChange Rows.regexReadsSpec) false w args) (Rows.regexReadsSpec.post enc Tryd.prog Tryd.f3 false true false false) :=
  law_laid (C := Tryd.checked) (L := laidL) laidL_noh Tryd.own started (by kernel_rfl) Tryd.func3
    (ChangeSpec.witness_at (enc := enc) (C := Tryd.checked) (os := os) (X := fun w _ => laidMetH Tryd.prog laidL w) false (laidWorld os) #[.slice none 0 0, .int .i64 0, .int .u8 0, .int .i64 0, .slice none 0 0, .string ⟨#[]⟩] 8 rfl (by kernel_rfl) (by kernel_rfl) (by kernel_rfl) (by kernel_rfl) (by kernel_rfl) (laidWorld_met os _))
    Tryd.laidOut (ks := [22, 3, 5, 23, 9, 56]) (by kernel_rfl) (by kernel_rfl) (tb := 4) (by kernel_rfl) (by kernel_rfl) rfl
    (fun ds hds => by
      match ds, hds with
      | [_, _, _, _, _, _], _ => exact ⟨rfl, rfl, rfl⟩)
    laid_gl (fun xs hxs => by
      rw [show Tryd.f3.params.toList = [22, 3, 5, 3, 23, 9] from rfl] at hxs
      match xs, hxs with
      | [x1, x2, x3, x4, x5, x6], ⟨h1, h2, h3, h4, h5, h6, _⟩ =>
        obtain ⟨n1, rfl⟩ := arg_raws h1
        obtain ⟨n2, rfl, _⟩ := arg_int (k := .i64) (by kernel_rfl) h2
        obtain ⟨n3, rfl, _⟩ := arg_int (k := .u8) (by kernel_rfl) h3
        obtain ⟨n4, rfl, _⟩ := arg_int (k := .i64) (by kernel_rfl) h4
        obtain ⟨n5, rfl, _⟩ := arg_ints (e := 3) (by kernel_rfl) (by kernel_rfl) h5
        obtain ⟨n6, rfl⟩ := arg_str (by kernel_rfl) h6
        exact reads_ok n1 n2 n3 n4 n5 n6)
theorem regexReads_row_holds : Rows.RegexReadsSaid :=
  OpenClaim.holds_of_wide 3 Tryd.f3 rfl rfl rfl rfl rfl rfl rfl ⟨rfl, rfl, rfl, rfl, rfl⟩ rfl rfl rfl rfl rfl (by kernel_rfl) Tryd.func3 (by kernel_rfl)
    (of_decide_eq_true (by kernel_rfl)) (by unfold Func.isWrapper; first | (rw [if_pos (by decide +kernel)]; kernel_rfl) | (rw [if_neg (by decide +kernel)]; exact ⟨rfl, rfl⟩))
    (fun os started H enc _ => regexReads_lifted os started H enc)
theorem regexReads_card_holds : Rows.RegexReadsCardSaid :=
  Claim7.holds_tied_plain_at .later [] [.data, .data, .data] true (true, "252fabc33c00c899ba09f24c312bfa73cda626b39cff52bd3a4e30b2933ed510") false
    regexReads_row_holds (fun _ h => by cases h) (by kernel_rfl) (fun _ h => by cases h) regexReads_row_tie rfl ⟨rfl, rfl⟩ (by kernel_rfl) rfl
    (fun f fn hf hfn => by
      obtain rfl : f = 3 := (Option.some.inj ((show Tryd.prog.funcNamed "milestone/milestonelaw4.RegexReads" = some 3 by kernel_rfl).symm.trans hf)).symm
      obtain rfl : fn = Tryd.f3 := (Option.some.inj (Tryd.func3.symm.trans hfn)).symm
      refine ⟨by kernel_rfl, fun j t ht => ?_⟩
      exact (wants_all (by kernel_rfl : (Tryd.f3.params.toList.all fun t => !Tryd.prog.wantsStandIn t) = true) ht))
    (by kernel_rfl)
end Go.Proofs.YtmcbfbpdfbcakaaDoor
