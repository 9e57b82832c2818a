/- Two machines told apart: the program's Apart. -/
import Derived.Test.YtpmjpogcaglphaaDoorMLMOther44
set_option linter.unusedVariables false
set_option linter.unusedSimpArgs false
set_option linter.unnecessarySimpa false
namespace Go.Proofs.YtpmjpogcaglphaaDoor.A
open Go
set_option maxRecDepth 20000
noncomputable def cB3 : q7 := p5 [(57, fun args H => if args.length = 1 then am6 (EX md0 (fun _ _ => none)) noR 100000010 (fun _ => none) Tryd.f57 args H else none), (58, fun args H => if args.length = 1 then am6 (EX md0 (fun _ _ => none)) noR 0 (fun _ => none) Tryd.f58 args H else none)]
theorem cd0 : s8 Tryd.prog cB3 ∧ Up cB3 := by
 refine l9 (l9 (F3 _) fun args H v H' h => ?_) fun args H v H' h => ?_
 ·split at h
  ·rename_i hn
   exact G6 (E := EX md0 (fun _ _ => none)) (m7 _) (m5 Tryd.prog).1 (m5 Tryd.prog).2 mixed Tryd.func58 (by rw [hn]; exact cB0 _) h
  ·cases h
 ·split at h
  ·rename_i hn
   exact G6 (E := EX md0 (fun _ _ => none)) (m7 _) (m5 Tryd.prog).1 (m5 Tryd.prog).2 mixed Tryd.func57 (by rw [hn]; exact cc7 _) h
  ·cases h
theorem bK7 {v : AV} {n : Nat} {u : List Int} {o : Ob} {nx : Nat} (hv : HS 3 1 62 o nx v n (cI u)) (hl : n ≤ 100000000) {K : AV × AH → Prop} (hK : ∀ o' nx', nx ≤ nx' → HS 3 1 62 o' nx' v n (cI u.reverse) → (∀ t, t.2 ≠ 62 → o' t = o t) → K (.tup [], ⟨o', nx'⟩)) :
  wO (Option.map (fun p => p4 false p.1 p.2) (cB3 57 [v] ⟨o, nx⟩)) K := by
 have hxl := hv.len
 rw [f8] at hxl
 rcases hv with ⟨rfl, rfl, h0⟩ | ⟨i, g, rfl, hi, hro, hlen⟩
 ·have hu0 : u = [] := List.length_eq_zero_iff.1 (by omega)
  subst hu0
  refine W3 (E := EX md0 (fun _ _ => none)) (fn := Tryd.f57) rfl (L3 (cc8 _ noR) ?_)
  rintro w a o' nx' ⟨rfl, h1, rfl⟩
  exact ⟨.inl rfl, hK o' nx' h1 HS.nil (fun t _ => rfl)⟩
 ·have hn : n = u.length := by omega
  subst hn
  refine W3 (E := EX md0 (fun _ _ => none)) (fn := Tryd.f57) rfl (L3 (cA9 _ noR hl hro) ?_)
  rintro w a o' nx' ⟨rfl, h1, h2, h3⟩
  exact ⟨.inl rfl, hK o' nx' h1 (.inr ⟨i, g, rfl, by omega, h2, by rw [f8, List.length_reverse, Nat.mul_one]⟩) (fun t ht => h3 t (fun hc => ht (by rw [hc])))⟩
theorem bd3 {v : AV} {n : Nat} {x : List Int} {o : Ob} {nx : Nat} (hv : HS 3 1 62 o nx v n (cI x)) (hl : n ≤ 100000000) {K : AV × AH → Prop} (hK : ∀ v' o' nx', nx ≤ nx' → view o' 1011 v' = .sl n (cI x) → K (v', ⟨o', nx'⟩)) :
  wO (Option.map (fun p => p4 false p.1 p.2) (cB3 58 [v] ⟨o, nx⟩)) K := by
 refine W3 (E := EX md0 (fun _ _ => none)) (fn := Tryd.f58) rfl (L3 (bK6 _ noR hv hl) ?_)
 rintro w a o' nx' ⟨rfl, h1, h2⟩
 refine ⟨.inr rfl, ?_⟩
 simp only [Tryd.f58]
 simp (disch := omega) only [go_sem]
 exact hK _ o' nx' h1 h2
abbrev kP (x y : Int) : AV := .agg [.int .i64 x, .int .i64 y]
def bd9 (l : List Ent) : List (AV × AV) := l.map fun e => (kP (e.x : Nat) (e.y : Nat), .bool true)
theorem bK8 (l m) : bd9 (l ++ m) = bd9 l ++ bd9 m := by simp [bd9]
theorem cd1 (x y : Nat) : ∀ l : List Ent, G4 (kP (x : Nat) (y : Nat)) (bd9 l) = some (if l.any (fun p => p.x == x && p.y == y) = true then some (.bool true) else none)
 | [] => rfl
 | e :: l => by
  have ih := cd1 x y l
  have he : M8 (kP (x : Nat) (y : Nat)) (kP (e.x : Nat) (e.y : Nat)) = some (e.x == x && e.y == y) := by
   show some ((x : Int) == (e.x : Int) && (y : Int) == (e.y : Int)) = _
   congr 1
   rw [Bool.eq_iff_iff]
   simp only [Bool.and_eq_true, beq_iff_eq]
   omega
  show G4 _ ((kP (e.x : Nat) (e.y : Nat), .bool true) :: bd9 l) = _
  rw [G4, he, ih, List.any_cons]
  cases e.x == x && e.y == y <;> simp
theorem bK9 {l : List Ent} {e : Ent} (h : l.any (fun p => p.x == e.x && p.y == e.y) = false) : aA6 (kP (e.x : Nat) (e.y : Nat)) (.bool true) (bd9 l) = bd9 (l ++ [e]) := by
 have hf := cd1 e.x e.y l
 rw [h, if_neg (by decide)] at hf
 rw [(K0 hf).2, bK8]
 rfl
def cB4 : Nat → Option (List (Nat × Nat))
 | 18 => some [(1, 17), (3, 17), (7, 17), (9, 17), (11, 17), (15, 17)]
 | _ => none
def mdA (f : FuncId) : Mode := if f = 58 then .raw false else md0 f
theorem bv2 : mdA 58 = .raw false := rfl
theorem cd2 : mdA 57 = .raw false := rfl
theorem cB5 : d6 (EX mdA (fun _ _ => none)) cB4 2 Tryd.f33 = true := by kernel_rfl
set_option maxHeartbeats 8000000 in
theorem bv3 {n k : Nat} {N M : List Int} {A B : List Bool} (hw : WfD n N A) (hw' : WfD k M B) : Ok Tryd.prog 33 [P8 n N A, P8 k M B] (apV (bs2 N A M B)) := by
 refine j7 (E := EX mdA (fun _ _ => none)) (cr := cB3) (m7 _) cd0 mixed (k := 4000010) Tryd.func33 cB5 rfl ?_
 have hO := hw.okD
 have hO' := hw'.okD
 have hA := hw.a
 have hB := hw'.a
 have hN := hw.l
 have hM := hw'.l
 have hn := hw.sz
 have hk := hw'.sz
 have hrun := (bN5 hO hO').1
 rw [hA, hB] at hrun
 generalize bs2 N A M B = res at *
 have hnk : n * k ≤ 4000000 := Nat.mul_le_mul hn.2 hk.2
 have hup0 : ∀ (tg : Tag) (o : Ob) (nx : Nat), bd7 tg (kP 0 0) (.bool true) o nx [] = some ⟨upd o tg (.map [(kP 0 0, .bool true)]), nx⟩ := fun tg o nx => an1 rfl tg _ o nx
 simp only [Tryd.f33, Option.getD_some]
 rw [P8, slB, P8, slB, hA, hB]
 simp (disch := omega) only [go_sem, hup0]
 refine m9 (fun mm a o nx => ∃ (r i : Nat) (l : List Ent) (c : Nat) (g : Tag), bw1 N A M B r i l = some res ∧ mm = r ∧ i ≤ l.length ∧ QMid N A M B i l c ∧ (∀ e, l[i]? = some e → QMid N A M B i l (5 * C5 e.w + 1)) ∧ 3 ≤ nx ∧
   o (0, 2) = some (.row ⟨27, 1, (0, 2), false, true, [.sl n (cI N), .sl n (cB A)]⟩) ∧ o (0, 3) = some (.row ⟨27, 1, (0, 3), false, true, [.sl k (cI M), .sl k (cB B)]⟩) ∧ o (1, 14) = some (.map (bd9 l)) ∧ o (2, 18) = some (.row ⟨103, 4, g, false, true, cQ l⟩) ∧
   a 2 = .ptr (0, 2) (0, 2) 0 ∧ a 3 = .ptr (0, 3) (0, 3) 0 ∧ a 6 = .mp (1, 14) ∧ a 7 = .ref (2, 18) g 0 l.length ∧ a 8 = .int .i64 i) (n * k + 2) (by omega)
  ⟨n * k + 2, 0, [bG7], 1, (2, 18), hrun, rfl, by simp, QMid.start N A M B, fun e he => (by injection he with he; subst he; exact QMid.start N A M B), by omega, by simp (disch := omega) only [go_sem], by simp (disch := omega) only [go_sem], ?_, ?_, by simp (disch := omega) only [go_sem], by simp (disch := omega) only [go_sem], by simp (disch := omega) only [go_sem], by simp (disch := omega) only [go_sem], by simp (disch := omega) only [go_sem]⟩ ?_
 ·simp (disch := omega) only [go_sem]
  rfl
 ·simp (disch := omega) only [go_sem]
  rfl
 rintro mm a o nx ⟨r, i, l, c, g, hp, rfl, hi, hq, hqn, hnx, o2, o3, o14, o18, h2, h3, h6, h7, h8⟩
 obtain ⟨r', rfl, hs⟩ := bv1 hp
 clear hp
 rcases hs with ⟨hx, hres⟩ | ⟨e, he, hs⟩
 ·subst hres
  have hie : i = l.length := by have := List.getElem?_eq_none_iff.1 hx; omega
  subst hie
  simp (disch := omega) only [go_sem, h2, h3, h6, h7, h8]
  rfl
 have hQ := hqn e he
 obtain ⟨hfew, hin⟩ := hQ.few hO hO'
 rw [hA, hB] at hfew
 obtain ⟨hex, hey⟩ := hin e (List.mem_of_getElem? he)
 rw [hA] at hex
 rw [hB] at hey
 have hlt := (List.getElem?_eq_some_iff.1 he).1
 have hat := cB2 he
 have ga := W9 (l := A) (i := e.x) (s := 1) (by omega)
 have gb := W9 (l := B) (i := e.y) (s := 1) (by omega)
 have hlc : l.length ≤ 4000000 := by omega
 rcases hs with ⟨hab, hp⟩ | ⟨hab, hres⟩
 ·have hbe : (A.getD e.x false == B.getD e.y false) = true := by rw [hab]; exact beq_self_eq_true _
  have hrow0 := fun m hm => aO0 hQ he hab m hm
  generalize A.getD e.x false = za at ga hbe
  generalize B.getD e.y false = zb at gb hbe
  simp (disch := omega) only [go_sem, cB4, h2, h3, h6, h7, h8, o2, o3, o18, hat, ga, gb, hbe, Bool.not_true]
  refine m9 (fun mm a o' nx' => ∃ (m : Nat) (g' : Tag), m ≤ 5 ∧ mm = 5 - m ∧ nx + 3 ≤ nx' ∧
    o' (0, 2) = some (.row ⟨27, 1, (0, 2), false, true, [.sl n (cI N), .sl n (cB A)]⟩) ∧ o' (0, 3) = some (.row ⟨27, 1, (0, 3), false, true, [.sl k (cI M), .sl k (cB B)]⟩) ∧ o' (1, 14) = some (.map (bd9 (bd8 N M i e m l))) ∧ o' (2, 18) = some (.row ⟨103, 4, g', false, true, cQ (bd8 N M i e m l)⟩) ∧ o' (nx + 1, 9) = some (.row ⟨100, 1, (nx + 1, 9), false, true, [.int .i64 (e.x : Nat), .int .i64 (e.y : Nat)]⟩) ∧
    a 2 = .ptr (0, 2) (0, 2) 0 ∧ a 3 = .ptr (0, 3) (0, 3) 0 ∧ a 6 = .mp (1, 14) ∧ a 7 = .ref (2, 18) g' 0 (bd8 N M i e m l).length ∧ a 8 = .int .i64 i ∧ a 9 = .ptr (nx + 1, 9) (nx + 1, 9) 0 ∧ a 67 = .int .i64 m) 5 (by omega)
   ⟨0, g, by omega, by omega, by omega, by simp (disch := omega) only [go_sem, o2], by simp (disch := omega) only [go_sem, o3], by simp (disch := omega) only [go_sem, o14]; rfl, by simp (disch := omega) only [go_sem, o18]; rfl, by simp (disch := omega) only [go_sem], by simp (disch := omega) only [go_sem, h2], by simp (disch := omega) only [go_sem, h3], by simp (disch := omega) only [go_sem, h6], by simp (disch := omega) only [go_sem, h7]; rfl, by simp (disch := omega) only [go_sem, h8], by simp (disch := omega) only [go_sem], by simp (disch := omega) only [go_sem]⟩ ?_
  clear h2 h3 h6 h7 h8 o2 o3 o14 o18 hat ga gb hbe
  rintro mm a o' nx' ⟨m, g', hm, rfl, hnx', o2, o3, o14, o18, o9, h2, h3, h6, h7, h8, h9, h67⟩
  have hR := hrow0 m hm
  obtain ⟨hLf, _⟩ := hR.mid.few hO hO'
  rw [hA, hB] at hLf
  have hLc : (bd8 N M i e m l).length ≤ 4000000 := by omega
  by_cases hm5 : m < 5
  ·have hsucc : bd8 N M i e (m + 1) l = aG8 (bd8 N M i e m l) (bw0 N M i e m) := rfl
   have hx1 := hO.e (e.x * 5 + m) (by omega)
   have hy1 := hO'.e (e.y * 5 + m) (by omega)
   have q1 : H6 false 1 (((cI N).drop (e.x * 5)).drop m) = some (.int .i64 ((bw0 N M i e m).x : Nat)) := by
    rw [List.drop_drop, I0 (by omega)]
    show some (AV.int .i64 _) = some (.int .i64 (((N.getD (e.x * 5 + m) 0).toNat : Nat) : Int))
    rw [Int.toNat_of_nonneg hx1.1]
   have q2 : H6 false 1 (((cI M).drop (e.y * 5)).drop m) = some (.int .i64 ((bw0 N M i e m).y : Nat)) := by
    rw [List.drop_drop, I0 (by omega)]
    show some (AV.int .i64 _) = some (.int .i64 (((M.getD (e.y * 5 + m) 0).toNat : Nat) : Int))
    rw [Int.toNat_of_nonneg hy1.1]
   have eb : (bw0 N M i e m).b = (i : Int) := rfl
   have em : (bw0 N M i e m).m = m := rfl
   generalize bw0 N M i e m = e' at *
   generalize bd8 N M i e m l = L at *
   have hcq : cQ (L ++ [e']) = cQ L ++ [.int .i64 (e'.x : Nat), .int .i64 (e'.y : Nat), .int .i64 (i : Nat), .int .i64 (m : Nat)] := by
    rw [cB1, ← em, ← eb]; rfl
   have hfd := cd1 e'.x e'.y L
   cases hany : L.any (fun p => p.x == e'.x && p.y == e'.y) with
   | true =>
    rw [hany, if_pos rfl] at hfd
    have hmet : aG8 L e' = L := by unfold aG8; rw [hany]; rfl
    rw [hmet] at hsucc
    simp (disch := omega) only [go_sem, cB4, h2, h3, h6, h7, h8, h9, h67, o2, o3, o14, o18, o9, q1, q2, hfd, Bool.not_true]
    exact ⟨5 - (m + 1), by omega, m + 1, g', by omega, rfl, by omega, by first | (rw [hsucc]; done) | (rw [hsucc]; exact o14), by first | (rw [hsucc]; done) | (rw [hsucc]; exact o18), by rw [hsucc], rfl⟩
   | false =>
    rw [hany, if_neg (by decide)] at hfd
    have hmet : aG8 L e' = L ++ [e'] := by unfold aG8; rw [hany]; rfl
    rw [hmet] at hsucc
    have hup : ∀ (o : Ob) (nx : Nat), bd7 (1, 14) (kP (e'.x : Nat) (e'.y : Nat)) (.bool true) o nx (bd9 L) = some ⟨upd o (1, 14) (.map (bd9 (L ++ [e']))), nx⟩ := fun o nx => by rw [an1 hfd, bK9 hany]
    simp (disch := omega) only [go_sem, cB4, h2, h3, h6, h7, h8, h9, h67, o2, o3, o14, o18, o9, q1, q2, hfd, hup, Bool.not_false]
    exact ⟨5 - (m + 1), by omega, m + 1, (nx' + 1 + 1 + 1 + 1 + 1, 99), by omega, rfl, by omega, by rw [hsucc], by rw [hsucc, hcq], by rw [hsucc]; simp, rfl⟩
  ·have hme : m = 5 := by omega
   subst hme
   simp (disch := omega) only [go_sem, h2, h3, h6, h7, h8, h9, h67]
   exact ⟨r', by omega, r', i + 1, _, _, g', hp, rfl, (List.getElem?_eq_some_iff.1 hR.at_).1, hR.done, hR.next, by omega, o2, o3, o14, o18, rfl, rfl⟩
 ·subst hres
  have hbe : (A.getD e.x false == B.getD e.y false) = false := beq_false_of_ne hab
  have hbk := hQ.backL
  generalize A.getD e.x false = za at ga hbe
  generalize B.getD e.y false = zb at gb hbe
  simp (disch := omega) only [go_sem, cB4, h2, h3, h6, h7, h8, o2, o3, o18, hat, ga, gb, hbe, Bool.not_false]
  refine m9 (fun mm a o' nx' => ∃ (q : Nat) (f : Ent) (u : List Nat) (vW : AV), l[q]? = some f ∧ q ≤ i ∧ mm = q ∧ u.length + q ≤ i ∧ e.w = f.w ++ u.reverse ∧ nx + 3 ≤ nx' ∧ HS 3 1 62 o' nx' vW u.length (cI (nL u)) ∧ o' (2, 18) = some (.row ⟨103, 4, g, false, true, cQ l⟩) ∧
    a 7 = .ref (2, 18) g 0 l.length ∧ a 10 = vW ∧ a 11 = .int .i64 q) i (by omega)
   ⟨i, e, [], .nil, he, by omega, rfl, by simp, by simp, by omega, HS.nil, by simp (disch := omega) only [go_sem, o18], by simp (disch := omega) only [go_sem, h7], by simp (disch := omega) only [go_sem], by simp (disch := omega) only [go_sem]⟩ ?_
  clear h2 h3 h6 h7 h8 o2 o3 o14 o18 hat ga gb hbe
  rintro mm a o' nx' ⟨q, f, u, vW, hf, hq', hmm, hul, hwd, hnx', hW, o18, h7, h10, h11⟩
  subst hmm
  have hql := (List.getElem?_eq_some_iff.1 hf).1
  have hat := cB2 hf
  have hat2 : (cQ l).drop (mm * 4 + 2) = .int .i64 f.b :: .int .i64 (f.m : Nat) :: cQ (l.drop (mm + 1)) := by rw [← List.drop_drop, hat]; rfl
  have hat3 : (cQ l).drop (mm * 4 + 3) = .int .i64 (f.m : Nat) :: cQ (l.drop (mm + 1)) := by rw [← List.drop_drop, hat]; rfl
  rcases hbk.case hf with ⟨a1, a2⟩ | ⟨j, f', a1, a2, a3, a4⟩
  ·rw [a2, List.nil_append] at hwd
   have a1' : ¬ 0 ≤ f.b := by omega
   simp (disch := omega) only [go_sem, h7, h10, h11, o18, hat, hat2, hat3, a1', cd2]
   refine bK7 (hW.keep (fun _ _ => rfl) (by omega)) (by omega) fun o2 nx2 hn2 hW2 _ => ?_
   simp (disch := omega) only [go_sem, h7, h10, h11, bv2]
   refine bd3 (HS.keep hW2 (o' := o2) (nx' := nx2 + 1) (fun _ _ => rfl) (by omega)) (by omega) fun v3 o3 nx3 hn3 hv3 => ?_
   simp (disch := omega) only [go_sem, hv3]
   rw [apV, hwd, slI, z6, List.length_reverse]
   simp [nL]
  ·have a1' : 0 ≤ f.b := by omega
   have hlu : (cI (nL u)).length = u.length * 1 := by rw [f8, z6, Nat.mul_one]
   obtain ⟨j8, hj8, hap⟩ := hW.app (nx' + 1) 8 1 [.int .i64 (f.m : Nat)] (by omega) rfl rfl (by simp only [V5]; omega)
   simp (disch := first | omega | (intro _; simp only [b8, Nat.reduceEqDiff, if_false])) only [go_sem, h7, h10, h11, o18, hat, hat2, hat3, a1', hap]
   refine ⟨j, by omega, j, f', u ++ [f.m], _, a3, by omega, rfl, by simp only [List.length_append, List.length_cons, List.length_nil]; omega, by rw [hwd, a4]; simp, by omega, ?_, rfl, by rw [a1]⟩
   rw [bN6, aa1, List.length_append]
   exact HS.grown (m := 1) (new := [.int .i64 (f.m : Nat)]) (by omega) (by simp [b8]) hlu rfl
theorem bv4 (args r) (h : cj5 args r) : Ok Tryd.prog 33 args r := by obtain ⟨n, k, N, M, A, B, h1, h2, rfl, rfl⟩ := h; exact bv3 h1 h2
set_option maxRecDepth 20000
def dt4 (args : List AV) (r : AV) : Prop := ∃ (n : Nat) (N : List Int) (A : List Bool) (s : Nat), WfD n N A ∧ s < n ∧ args = [P8 n N A, .int .i64 s] ∧ r = .agg [.sl n (cI (cV7 N n s)), .sl n (cB (cV8 A s))]
noncomputable def XM1 : FuncId → List AV → Option AV := n7 [(14, w9 cj4), (15, w9 dj9), (16, w9 bH5), (27, w9 RSa), (17, w9 RSa), (21, w9 bd1), (32, w9 RRn), (29, w9 aZ0), (30, w9 RW), (33, w9 cj5), (26, w9 cj5), (34, w9 dt4)]
theorem cd3 {n N A k M B} (h : WfD n N A) (h' : WfD k M B) : XM1 33 [dV n N A, dV k M B] = some (apV (bs2 N A M B)) := by
 rw [← ar8 h.a, ← ar8 h'.a]
 exact l5 (R := cj5) cc9 ⟨_, _, _, _, _, _, h, h', rfl, rfl⟩
theorem R2 (ts : List Tag) (o : Ob) (k g : Tag) : P7 (v6 ts o) k g = (P7 o k g).map fun r => if ts.contains k then { r with ro := true } else r := by
 unfold P7 v6
 cases o k with
 | none => rfl
 | some x =>
  cases x with
  | map es => rfl
  | row r =>
   dsimp only
   by_cases h : ts.contains k = true
   ·simp only [h, if_true]
    by_cases hg : r.gen = g <;> simp [hg]
   ·simp only [h, Bool.false_eq_true, if_false]
    by_cases hg : r.gen = g <;> simp [hg]
theorem Y6 (ts : List Tag) (o : Ob) : ∀ (d : Nat) (v : AV), view (v6 ts o) d v = view o d v
 | 0, v => rfl
 | d + 1, v => by
  have ih := fun l : List AV => List.map_congr_left (l := l) fun x _ => Y6 ts o d x
  cases v with
  | agg cs => simp only [view]; rw [ih]
  | tup cs => simp only [view]; rw [ih]
  | fn f x y => simp only [view]; rw [ih, ih]
  | ref k g off n =>
   simp only [view]
   rw [R2]
   cases P7 o k g with
   | none => rfl
   | some r =>
    simp only [Option.map_some]
    by_cases h : ts.contains k = true
    ·simp only [h, if_true]; rw [ih]
    ·simp only [h, Bool.false_eq_true, if_false]; rw [ih]
  | ptr k g off =>
   simp only [view]
   rw [R2]
   cases P7 o k g with
   | none => rfl
   | some r =>
    simp only [Option.map_some]
    by_cases h : ts.contains k = true
    ·simp only [h, if_true]; rw [ih]
    ·simp only [h, Bool.false_eq_true, if_false]; rw [ih]
  | _ => rfl
theorem Y7 (ts : List Tag) (o : Ob) : ∀ (d : Nat) (v : AV), a8 (v6 ts o) d v = a8 o d v
 | 0, v => rfl
 | d + 1, v => by
  have ih : ∀ l : List AV, l.flatMap (a8 (v6 ts o) d) = l.flatMap (a8 o d) := fun l => by
   rw [List.flatMap_def, List.flatMap_def]
   congr 1
   exact List.map_congr_left fun x _ => Y7 ts o d x
  cases v with
  | agg cs => simp only [a8]; rw [ih]
  | tup cs => simp only [a8]; rw [ih]
  | fn f x y => simp only [a8]; rw [ih, ih]
  | ref k g off n =>
   simp only [a8]
   rw [R2]
   cases P7 o k g with
   | none => rfl
   | some r =>
    simp only [Option.map_some]
    by_cases h : ts.contains k = true
    ·simp only [h, if_true]; rw [ih]
    ·simp only [h, Bool.false_eq_true, if_false]; rw [ih]
  | ptr k g off =>
   simp only [a8]
   rw [R2]
   cases P7 o k g with
   | none => rfl
   | some r =>
    simp only [Option.map_some]
    by_cases h : ts.contains k = true
    ·simp only [h, if_true]; rw [ih]
    ·simp only [h, Bool.false_eq_true, if_false]; rw [ih]
  | _ => rfl
end Go.Proofs.YtpmjpogcaglphaaDoor.A
