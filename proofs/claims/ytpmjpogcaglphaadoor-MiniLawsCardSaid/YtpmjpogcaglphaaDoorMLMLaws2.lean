/- A, part M: maps. -/
import Derived.MapKept
import Derived.WideKeyRuns
import Derived.ProofKit
import Derived.OpenShut
import Derived.Test.YtpmjpogcaglphaaDoorMLMLaws1
set_option linter.unusedVariables false
set_option linter.unusedSimpArgs false
set_option linter.unnecessarySimpa false
namespace Go.Proofs.YtpmjpogcaglphaaDoor.A
open Go Go.MapKept
section
variable {P : Program} {c : Ctx} {N : Tag → Prop}
theorem aL0 {t : Tag} (hI : Inv c) (ht : ¬ c.T t) {ty : TypeId} {H : AH} (hH : c.H = H.o) (hN : N t) : bx1 P c N (Instr.makeMap ty none) (.mp t) (upd H.o t (.map [])) := by
 refine ⟨.map (some c.w.heap.size), c.new t (.map []) (.map #[] 0), ?_, bg6 hI t ht _ _ (fun r hr => by cases hr) ⟨rfl, rfl⟩, aQ7 hI t ht _ _ (fun r hr => by cases hr), by simp [Ctx.new, hH], fun u hu => hu.imp id (fun e => by rw [e]; exact hN), .mp t _ (.inr rfl) rfl (fun es _ => by simp [Ctx.new])⟩
 simp [Instr.makeMap, newObj, Ctx.new, Sem.run, Result.andThen]
theorem bh9 {k : IntKind} {n : Int} {q : AV} {b : Bool} (h : N5 (.int k n) q = some b) : ∃ n', q = .int k n' ∧ (b = true ↔ n = n') := by
 cases q <;> simp only [N5] at h <;> try cases h
 rename_i k' n'
 split at h
 ·rename_i e
  subst e
  injection h with h
  exact ⟨n', rfl, by rw [← h]; simp⟩
 ·cases h
theorem bi0 {s : List UInt8} {q : AV} {b : Bool} (h : N5 (.str s) q = some b) : ∃ s', q = .str s' ∧ (b = true ↔ s = s') := by
 cases q <;> simp only [N5] at h <;> try cases h
 rename_i s'
 exact ⟨s', rfl, by simp⟩
theorem aZ1 {x y : Int} {q : AV} {b : Bool} (h : N5 (.agg [.int .i64 x, .int .i64 y]) q = some b) : ∃ x' y', q = .agg [.int .i64 x', .int .i64 y'] ∧ (b = true ↔ x = x' ∧ y = y') := by
 unfold N5 at h
 split at h
 ·rename_i e; cases e
 ·rename_i e; cases e
 ·rename_i x1 y1 x2 y2 e
  simp only [AV.agg.injEq, List.cons.injEq, AV.int.injEq, true_and, and_true] at e
  obtain ⟨rfl, rfl⟩ := e
  injection h with h
  exact ⟨x2, y2, rfl, by rw [← h]; simp⟩
 ·cases h
theorem aR3 {x y : Int} {v : Value} (h : VR c (.agg [.int .i64 x, .int .i64 y]) v) : v = .agg #[.int .i64 x, .int .i64 y] := by
 obtain ⟨vs, rfl, hl, hv, _⟩ := h.agg_
 obtain ⟨l⟩ := vs
 match l, hl with
 | [u, w], _ =>
  have h1 := (hv 0 _ u rfl rfl).int_
  have h2 := (hv 1 _ w rfl rfl).int_
  rw [h1, h2]
theorem V7 (x y : Int) : Cells c [.int .i64 x, .int .i64 y] #[.int .i64 x, .int .i64 y] := ⟨rfl, fun j a u ha hu => by
 match j with
 | 0 => simp at ha hu; rw [← ha, ← hu]; exact VR.int ..
 | 1 => simp at ha hu; rw [← ha, ← hu]; exact VR.int ..
 | j + 2 => simp at ha⟩
theorem ae5 {kt : TypeId} (h : ad6 P kt = true) : ∃ e, P.underlying kt = some (.array 2 e) ∧ P.underlying e = some (.int .i64) ∧ l9 P e = some 1 ∧ G9 P e = some false ∧ G9 P kt = some true ∧ D4 P kt = some [.int, .int] := by
 unfold ad6 at h
 split at h
 ·rename_i n e hu
  simp only [Bool.and_eq_true, beq_iff_eq, decide_eq_true_eq] at h
  obtain ⟨⟨⟨⟨⟨h1, h2⟩, h3⟩, h4⟩, h5⟩, h6⟩ := h
  subst h1
  refine ⟨e, hu, ?_, h3, h4, h5, ?_⟩
  ·unfold cf9 at h2
   split at h2
   ·assumption
   ·cases h2
  ·unfold bg3 at h6
   split at h6
   ·assumption
   ·cases h6
 ·cases h
theorem at6 (c : Ctx) {kt : TypeId} (h : ad6 P kt = true) (x y x' y' : Int) (w : World) : (Op.equal kt (.agg #[.int .i64 x, .int .i64 y]) (.agg #[.int .i64 x', .int .i64 y'])).run P w = .ok (x == x' && y == y') w := by
 obtain ⟨e, hu, he, hs, ha, hak, hl⟩ := ae5 h
 unfold D4 at hl
 split at hl
 ·cases hl
 ·(first | rw [if_pos hak] at hl | skip)
  obtain ⟨_, _, heq⟩ := aa0 (P := P) 20 kt _ hl
  have := heq 10000 (by omega) c [.int .i64 x, .int .i64 y] [.int .i64 x', .int .i64 y'] _ _ (x == x' && y == y') w (.inl ⟨hak, _, rfl, V7 x y⟩) (.inl ⟨hak, _, rfl, V7 x' y'⟩) (by simp [u7, as9])
  exact this
theorem aZ2 (c : Ctx) {kt : TypeId} (h : ad6 P kt = true) (x y : Int) (em : Bool) (w : World) : (Instr.checkKey em 10000 kt (.agg #[.int .i64 x, .int .i64 y])).run P w = .ok () w := by
 obtain ⟨e, hu, he, hs, ha, hak, hl⟩ := ae5 h
 obtain ⟨u, p1, _⟩ := ae3 (P := P) (V7 (c := c) x y) (off := 0) ha hs (by simp) (fun _ => rfl) w
 obtain ⟨v, p2, _⟩ := ae3 (P := P) (V7 (c := c) x y) (off := 1) ha hs (by simp) (fun _ => rfl) w
 have q : ∀ a : Value, (Instr.checkKey em 9999 e a).run P w = .ok () w := fun a => by
  rw [show (9999 : Nat) = 9998 + 1 from rfl, Instr.checkKey]
  simp only [Sem.run_bind, run_underlying he, Result.andThen_ok]
  rfl
 rw [show (10000 : Nat) = 9999 + 1 from rfl, Instr.checkKey]
 simp only [Sem.run_bind, run_underlying hu, Result.andThen_ok]
 simp only [Std.Legacy.Range.forIn_eq_forIn_range', Std.Legacy.Range.size, Nat.sub_zero, Nat.add_one_sub_one, Nat.div_one, List.range'_succ, List.range'_zero]
 simp [w9 hs, p1, p2, q]
theorem aZ3 (x y : Int) (w : World) : (Instr.keyThatStays (.agg #[.int .i64 x, .int .i64 y]) (.agg #[.int .i64 x, .int .i64 y])).run P w = .ok (.agg #[.int .i64 x, .int .i64 y]) w := by
 unfold Instr.keyThatStays
 rw [show (10000 : Nat) = 9999 + 1 from rfl]
 simp [Instr.sameBits]
theorem am1 {kt : TypeId} {kv : Value} {w : World} : ∀ (l : List MapEntry) (i : Nat), (∀ e ∈ l, (Op.equal kt kv e.key).run P w = .ok false w) → (Instr.findAsking kt kv l i).run P w = .ok none w
 | [], _, _ => by simp [Instr.findAsking]
 | e :: l, i, h => by
  have h1 := h e (.head _)
  have ih := am1 l (i + 1) (fun x hx => h x (.tail _ hx))
  simp [Instr.findAsking, h1, ih]
theorem aD6 {kt : TypeId} {kv : Value} {w : World} : ∀ (l : List MapEntry) (j i : Nat) (e : MapEntry), l[j]? = some e → (Op.equal kt kv e.key).run P w = .ok true w → (∀ i' x, i' < j → l[i']? = some x → (Op.equal kt kv x.key).run P w = .ok false w) → (Instr.findAsking kt kv l i).run P w = .ok (some (i + j, e.val)) w
 | [], j, i, e, h, _, _ => by simp at h
 | x :: l, 0, i, e, h, he, _ => by
  simp only [List.getElem?_cons_zero, Option.some.injEq] at h
  subst h
  simp [Instr.findAsking, he]
 | x :: l, j + 1, i, e, h, he, hn => by
  have hx := hn 0 x (by omega) rfl
  have ih := aD6 l j (i + 1) e (by simpa using h) he (fun i' y hi hy => hn (i' + 1) y (by omega) (by simpa using hy))
  simp only [Instr.findAsking, Sem.run_bind, hx, Result.andThen_ok, Bool.false_eq_true, if_false, ih]
  rw [show i + 1 + j = i + (j + 1) by omega]
theorem by5 {kt : TypeId} {k : AV} {kv : Value} (h : aK2 P kt k = true) (hk : VR c k kv) : (∃ d, P.underlying kt = some d ∧ IsKey d kv ∧ ∀ q b, N5 k q = some b → ∀ qv, VR c q qv → IsKey d qv ∧ (b = true ↔ qv = kv)) ∨ (ad6 P kt = true ∧ ∃ x y, k = .agg [.int .i64 x, .int .i64 y] ∧ kv = .agg #[.int .i64 x, .int .i64 y]) := by
 unfold aK2 at h
 split at h
 ·rename_i d d' n hu
  rw [decide_eq_true_eq] at h
  subst h
  obtain rfl := hk.int_
  refine .inl ⟨_, hu, by simp [IsKey], fun q b hq qv hqv => ?_⟩
  obtain ⟨n', rfl, hb⟩ := bh9 hq
  obtain rfl := hqv.int_
  refine ⟨by simp [IsKey], hb.trans ?_⟩
  simp only [Value.int.injEq, true_and]
  exact eq_comm
 ·rename_i s hu
  obtain rfl := hk.str_
  refine .inl ⟨_, hu, trivial, fun q b hq qv hqv => ?_⟩
  obtain ⟨s', rfl, hb⟩ := bi0 hq
  obtain rfl := hqv.str_
  refine ⟨trivial, hb.trans ?_⟩
  simp only [Value.string.injEq, ByteArray.mk.injEq, Array.mk.injEq]
  exact eq_comm
 ·exact .inr ⟨h, _, _, rfl, aR3 hk⟩
 ·cases h
theorem am2 {k : AV} : ∀ {es : List (AV × AV)} {r : Option AV}, J9 k es = some r → ∀ x ∈ es, ∃ b, N5 k x.1 = some b
 | [], _, _, x, hx => by cases hx
 | (q, v) :: es, r, h, x, hx => by
  unfold J9 at h
  rcases List.mem_cons.1 hx with rfl | hx
  ·cases he : N5 k q with
   | none => rw [he] at h; cases h
   | some b => exact ⟨b, rfl⟩
  ·split at h
   ·rename_i h2; exact am2 h2 x hx
   ·rename_i h2; exact am2 h2 x hx
   ·cases h
theorem O7 {k : AV} : ∀ {es : List (AV × AV)}, J9 k es = some none → (∀ x ∈ es, N5 k x.1 = some false) ∧ ∀ v, aC6 k v es = es ++ [(k, v)]
 | [], _ => ⟨fun x hx => (by cases hx), fun v => rfl⟩
 | (q, u) :: es, h => by
  unfold J9 at h
  split at h
  ·cases h
  ·rename_i h1 h2
   injection h with h
   rw [h] at h2
   obtain ⟨g1, g2⟩ := O7 h2
   refine ⟨fun x hx => ?_, fun v => ?_⟩
   ·rcases List.mem_cons.1 hx with rfl | hx
    ·exact h1
    ·exact g1 x hx
   ·rw [aC6, if_neg (by rw [h1]; simp), g2 v]; rfl
  ·cases h
theorem at7 {k : AV} : ∀ {es : List (AV × AV)} {v : AV}, J9 k es = some (some v) → ∃ j q, es[j]? = some (q, v) ∧ N5 k q = some true ∧ (∀ i x, i < j → es[i]? = some x → N5 k x.1 = some false) ∧ ∀ v', aC6 k v' es = es.set j (k, v')
 | [], v, h => by cases h
 | (q, u) :: es, v, h => by
  unfold J9 at h
  split at h
  ·rename_i h1 h2
   injection h with h; injection h with h
   subst h
   exact ⟨0, q, rfl, h1, fun i x hi => by omega, fun v' => by rw [aC6, if_pos h1]; rfl⟩
  ·rename_i h1 h2
   injection h with h
   rw [h] at h2
   obtain ⟨j, q', e1, e2, e3, e4⟩ := at7 h2
   refine ⟨j + 1, q', by simpa using e1, e2, fun i x hi hx => ?_, fun v' => ?_⟩
   ·cases i with
    | zero => simp only [List.getElem?_cons_zero, Option.some.injEq] at hx; subst hx; exact h1
    | succ i => exact e3 i x (by omega) (by simpa using hx)
   ·rw [aC6, if_neg (by rw [h1]; simp), e4 v']; rfl
  ·cases h
theorem at8 {d : TypeDesc} {k : Value} (hk : IsKey d k) : ∀ (l : List MapEntry) (j i : Nat) (e : MapEntry), (∀ x ∈ l, IsKey d x.key) → l[j]? = some e → e.key = k → (∀ i' x, i' < j → l[i']? = some x → x.key ≠ k) → Instr.findNow d k l i = some (some (i + j, e.val))
 | [], j, i, e, _, h, _, _ => by simp at h
 | x :: l, 0, i, e, ha, h, he, _ => by
  obtain ⟨r, hr, hiff⟩ := sameNow_of_keys hk (ha x (.head _))
  simp only [List.getElem?_cons_zero, Option.some.injEq] at h
  subst h
  have : r = true := hiff.2 he.symm
  subst this
  simp [Instr.findNow, hr]
 | x :: l, j + 1, i, e, ha, h, he, hn => by
  obtain ⟨r, hr, hiff⟩ := sameNow_of_keys hk (ha x (.head _))
  have hx := hn 0 x (by omega) rfl
  have : r = false := by
   cases r with
   | false => rfl
   | true => exact absurd (hiff.1 rfl).symm hx
  subst this
  have ih := at8 hk l j (i + 1) e (fun y hy => ha y (.tail _ hy)) (by simpa using h) he (fun i' y hi hy => hn (i' + 1) y (by omega) (by simpa using hy))
  simp only [Instr.findNow, hr, ih]
  congr 3
  omega
theorem aR4 {k : AV} {kv : Value} (hq : ∀ q b, N5 k q = some b → ∀ qv, VR c q qv → (b = true ↔ qv = kv)) {es : List (AV × AV)} {en : Array MapEntry} (hl : en.size = es.length)
  (hx : ∀ (j : Nat) (x : AV × AV) (e : MapEntry), es[j]? = some x → en[j]? = some e → VR c x.1 e.key ∧ VR c x.2 e.val) {r : Option AV} (hr : J9 k es = some r) :
  (r = none ∧ ∀ e ∈ en.toList, e.key ≠ kv) ∨ ∃ v j e, r = some v ∧ en.toList[j]? = some e ∧ e.key = kv ∧ VR c v e.val ∧ (∀ i x, i < j → en.toList[i]? = some x → x.key ≠ kv) ∧ ∀ v', aC6 k v' es = es.set j (k, v') := by
 cases r with
 | none =>
  refine .inl ⟨rfl, fun e he h3 => ?_⟩
  obtain ⟨j, hj', rfl⟩ := List.getElem_of_mem he
  have hj : j < es.length := by rw [← hl]; simpa using hj'
  obtain ⟨a, _⟩ := hx j es[j] en.toList[j] (by simp [hj]) (by simp [show j < en.size by simpa using hj'])
  have hb := (O7 hr).1 es[j] (List.getElem_mem ..)
  have := (hq _ _ hb _ a).2 h3
  cases this
 | some v =>
  obtain ⟨j, q, e1, e2, e3, e4⟩ := at7 hr
  have hj : j < en.size := by rw [hl]; exact (List.getElem?_eq_some_iff.1 e1).1
  obtain ⟨a, b⟩ := hx j (q, v) en[j] e1 (by simp [hj])
  have hkj := (hq _ _ e2 _ a).1 rfl
  refine .inr ⟨v, j, en[j], rfl, by simp [hj], hkj, b, fun i x hi hxx => ?_, e4⟩
  have hie : i < es.length := by omega
  obtain ⟨a', _⟩ := hx i es[i] x (by simp [hie]) (by simpa using hxx)
  have hb := e3 i es[i] hi (by simp [hie])
  intro he
  have := (hq _ _ hb _ a').2 he
  cases this
theorem aR5 {kt : TypeId} {k : AV} {kv : Value} (w : World) (h : aK2 P kt k = true) (hk : VR c k kv) {es : List (AV × AV)} {en : Array MapEntry} (hl : en.size = es.length)
  (hx : ∀ (j : Nat) (x : AV × AV) (e : MapEntry), es[j]? = some x → en[j]? = some e → VR c x.1 e.key ∧ VR c x.2 e.val) {r : Option AV} (hr : J9 k es = some r) :
  (∀ em, (Instr.checkKey em 10000 kt kv).run P w = .ok () w) ∧ (Instr.keyThatStays kv kv).run P w = .ok kv w ∧ ((r = none ∧ (Instr.findKey kt kv en.toList).run P w = .ok none w) ∨ ∃ v j e, r = some v ∧ (Instr.findKey kt kv en.toList).run P w = .ok (some (j, e.val)) w ∧ en[j]? = some e ∧ e.key = kv ∧ VR c v e.val ∧ ∀ v', aC6 k v' es = es.set j (k, v')) := by
 have hentry : ∀ e ∈ en.toList, ∃ x ∈ es, VR c x.1 e.key ∧ ∃ b, N5 k x.1 = some b := fun e he => by
  obtain ⟨j, hj, rfl⟩ := List.getElem_of_mem he
  have hj' : j < es.length := by rw [← hl]; simpa using hj
  obtain ⟨a, _⟩ := hx j es[j] en.toList[j] (by simp [hj']) (by simp [show j < en.size by simpa using hj])
  exact ⟨es[j], List.getElem_mem .., a, am2 hr es[j] (List.getElem_mem ..)⟩
 rcases by5 h hk with ⟨d, hu, hkey, hq⟩ | ⟨hp, x, y, rfl, rfl⟩
 ·refine ⟨fun em => Go.MapKept.run_checkKey hu hkey em 9999, Go.MapKept.run_keyThatStays hkey, ?_⟩
  have hall : ∀ x ∈ en.toList, IsKey d x.key := fun e he => by
   obtain ⟨x, _, h1, b, h2⟩ := hentry e he
   exact (hq _ b h2 _ h1).1
  rcases aR4 (fun q b h1 qv h2 => (hq q b h1 qv h2).2) hl hx hr with ⟨rfl, h1⟩ | ⟨v, j, e, rfl, h1, h2, h3, h4, h5⟩
  ·refine .inl ⟨rfl, ?_⟩
   rcases findNow_spec hkey en.toList 0 hall with ⟨g1, _⟩ | ⟨j, e, g1, g2, g3⟩
   ·exact Go.MapKept.run_findKey hu g1
   ·exact absurd g3 (h1 e (List.mem_of_getElem? g2))
  ·refine .inr ⟨v, j, e, rfl, ?_, by simpa using h1, h2, h3, h5⟩
   have := at8 hkey en.toList j 0 e hall h1 h2 h4
   exact Go.MapKept.run_findKey hu (by simpa using this)
 ·refine ⟨fun em => aZ2 c hp x y em w, aZ3 x y w, ?_⟩
  have hq : ∀ q b, N5 (.agg [.int .i64 x, .int .i64 y]) q = some b → ∀ qv, VR c q qv → ∃ x' y', qv = .agg #[.int .i64 x', .int .i64 y'] ∧ (b = true ↔ x = x' ∧ y = y') := fun q b h1 qv h2 => by
   obtain ⟨x', y', rfl, hb⟩ := aZ1 h1
   exact ⟨x', y', aR3 h2, hb⟩
  obtain ⟨e, hu, _⟩ := ae5 hp
  rw [run_findKey_eq w (by rw [hu])]
  have heq : ∀ e ∈ en.toList, ∃ x' y', e.key = .agg #[.int .i64 x', .int .i64 y'] ∧ (Op.equal kt (.agg #[.int .i64 x, .int .i64 y]) e.key).run P w = .ok (x == x' && y == y') w := fun e he => by
   obtain ⟨z, _, h1, b, h2⟩ := hentry e he
   obtain ⟨x', y', h3, _⟩ := hq _ b h2 _ h1
   exact ⟨x', y', h3, by rw [h3]; exact at6 c hp x y x' y' w⟩
  have hne : ∀ e ∈ en.toList, e.key ≠ .agg #[.int .i64 x, .int .i64 y] → (Op.equal kt (.agg #[.int .i64 x, .int .i64 y]) e.key).run P w = .ok false w := fun e he hn => by
   obtain ⟨x', y', h3, h4⟩ := heq e he
   rw [h4]
   have : (x == x' && y == y') = false := by
    rw [← Bool.not_eq_true]
    intro hh
    simp only [Bool.and_eq_true, beq_iff_eq] at hh
    exact hn (by rw [h3, hh.1, hh.2])
   rw [this]
  rcases aR4 (k := .agg [.int .i64 x, .int .i64 y]) (kv := .agg #[.int .i64 x, .int .i64 y]) (fun q b h1 qv h2 => by
   obtain ⟨x', y', h3, h4⟩ := hq q b h1 qv h2
   rw [h3, h4]
   simp only [Value.agg.injEq, Array.mk.injEq, List.cons.injEq, Value.int.injEq, true_and, and_true]
   exact ⟨fun h => ⟨h.1.symm, h.2.symm⟩, fun h => ⟨h.1.symm, h.2.symm⟩⟩) hl hx hr with ⟨rfl, h1⟩ | ⟨v, j, e, rfl, h1, h2, h3, h4, h5⟩
  ·exact .inl ⟨rfl, am1 _ 0 (fun e he => hne e he (h1 e he))⟩
  ·refine .inr ⟨v, j, e, rfl, ?_, by simpa using h1, h2, h3, h5⟩
   have := aD6 (P := P) (kt := kt) (kv := .agg #[.int .i64 x, .int .i64 y]) (w := w) en.toList j 0 e h1 (by rw [h2, at6 c hp]; simp) (fun i z hi hz => hne z (List.mem_of_getElem? hz) (h4 i z hi hz))
   simpa using this
theorem at9 {t kt et : TypeId} {mv kv zv : Value} {ok : Bool} {en : Array MapEntry} {w : World} (hu : P.underlying t = some (.map kt et)) (hes : mv = .map none ∧ en = #[] ∨ ∃ g cl, mv = .map (some g) ∧ w.heap[g]? = some (.map en cl)) (hc : ∀ em, (Instr.checkKey em 10000 kt kv).run P w = .ok () w) {r : Option (Nat × Value)} (hf : (Instr.findKey kt kv en.toList).run P w = .ok r w) (hz : (zeroValue et).run P w = .ok zv w) :
  (Instr.lookup t mv kv ok).run P w = .ok (match r with | some (_, v) => (if ok then .tuple #[v, .bool true] else v) | none => (if ok then .tuple #[zv, .bool false] else zv)) w := by
 rcases hes with ⟨rfl, rfl⟩ | ⟨g, cl, rfl, hb⟩
 ·rcases r with _ | ⟨j, v⟩ <;> simp [Instr.lookup, run_underlying hu, hc, hf, hz, Result.andThen]
 ·rcases r with _ | ⟨j, v⟩ <;> simp [Instr.lookup, run_underlying hu, Go.MapKept.run_getObj_map hb, hc, hf, hz, Result.andThen]
theorem aR6 {x y : AV} {u v : Value} (h1 : VR c x u) (h2 : VR c y v) : VR c (.tup [x, y]) (.tuple #[u, v]) := .tup _ _ rfl (fun i a b ha hb => by
 match i with
 | 0 => simp at ha hb; rw [← ha, ← hb]; exact h1
 | 1 => simp at ha hb; rw [← ha, ← hb]; exact h2
 | i + 2 => simp at ha)
theorem aZ4 (hI : Inv c) {t : TypeId} {m k v : AV} {mv kv : Value} {ok : Bool} {H : AH} (hH : c.H = H.o) (hm : VR c m mv) (hk : VR c k kv) (h : H9 P t m k ok H = some v) : Says P c (Instr.lookup t mv kv ok) v := by
 unfold H9 at h
 split at h
 ·rename_i kt et hu
  split at h
  ·rename_i hok
   split at h
   ·rename_i es z hes hz
    obtain ⟨en, hen, hl, hx⟩ : ∃ en : Array MapEntry, (mv = .map none ∧ en = #[] ∨ ∃ g cl, mv = .map (some g) ∧ c.w.heap[g]? = some (.map en cl)) ∧ en.size = es.length ∧ ∀ (j : Nat) (x : AV × AV) (e : MapEntry), es[j]? = some x → en[j]? = some e → VR c x.1 e.key ∧ VR c x.2 e.val := by
     unfold ax6 at hes
     split at hes
     ·injection hes with hes; subst hes
      obtain rfl := hm.nilmp_
      exact ⟨#[], .inl ⟨rfl, rfl⟩, rfl, fun j x e hj => by simp at hj⟩
     ·rename_i kk
      split at hes
      ·rename_i es' he
       injection hes with hes; subst hes
       obtain ⟨_, _, hmp⟩ := hm.mp_
       rw [← hH] at he
       obtain rfl := hmp _ he
       obtain ⟨_, _, en, cl, hb, hl, hx⟩ := hI.map _ _ he
       exact ⟨en, .inr ⟨_, cl, rfl, hb⟩, hl, hx⟩
      ·cases hes
     ·cases hes
    cases hf : J9 k es with
    | none => rw [hf] at h; cases h
    | some r =>
     rw [hf] at h
     obtain ⟨hcheck, hstays, hfind⟩ := aR5 c.w hok hk hl hx hf
     obtain ⟨zv, hz1, hz2⟩ : ∃ zv, (zeroValue et).run P c.w = .ok zv c.w ∧ VR c z zv := by
      unfold aK3 at hz
      cases hi : P.info? et with
      | none => rw [hi] at hz; cases hz
      | some i =>
       rw [hi] at hz
       simp only [Option.bind_some] at hz
       cases hzz : i.zero with
       | none => rw [hzz] at hz; cases hz
       | some zv =>
        rw [hzz] at hz
        simp only [Option.bind_some] at hz
        exact ⟨zv, ay0 hi hzz c.w, .data _ _ (ae0 hz c.S c.w).1⟩
     rcases hfind with ⟨rfl, h1⟩ | ⟨v', j, e, rfl, h1, h2, h3, h4, _⟩
     ·dsimp only at h
      injection h with h
      refine ⟨_, at9 hu hen hcheck h1 hz1, ?_⟩
      rw [← h]
      cases ok
      ·exact hz2
      ·exact aR6 hz2 (VR.bool ..)
     ·dsimp only at h
      injection h with h
      refine ⟨_, at9 hu hen hcheck h1 hz1, ?_⟩
      rw [← h]
      cases ok
      ·exact h4
      ·exact aR6 h4 (VR.bool ..)
   ·cases h
  ·cases h
 ·cases h
theorem au0 (hI : Inv c) {t : TypeId} {m k v : AV} {mv kv vv : Value} {H H' : AH} (hH : c.H = H.o) (hm : VR c m mv) (hk : VR c k kv) (hv : VR c v vv) (h : m6 P t m k v H = some H') : by1 P c N (Instr.mapUpdate t mv kv vv) H'.o := by
 unfold m6 at h
 split at h
 ·rename_i kt et tg hu
  split at h
  ·rename_i hok
   split at h
   ·rename_i es he
    split at h
    ·rename_i r hf
     injection h with h
     subst h
     obtain ⟨hT, _, hmp⟩ := hm.mp_
     rw [← hH] at he
     obtain rfl := hmp _ he
     obtain ⟨_, _, en, cl, hb, hl, hx⟩ := hI.map _ _ he
     obtain ⟨hcheck, hstays, hfind⟩ := aR5 c.w hok hk hl hx hf
     have fin : ∀ (en' : Array MapEntry) (cl' : Nat), (Instr.mapUpdate t (.map (some (c.φ tg))) kv vv).run P c.w = .ok () { c.w with heap := c.w.heap.setIfInBounds (c.φ tg) (.map en' cl') } → en'.size = (aC6 k v es).length →
       (∀ (j : Nat) (x : AV × AV) (e : MapEntry), (aC6 k v es)[j]? = some x → en'[j]? = some e → VR c x.1 e.key ∧ VR c x.2 e.val) → by1 P c N (Instr.mapUpdate t (.map (some (c.φ tg))) kv vv) (upd H.o tg (.map (aC6 k v es))) := by
      intro en' cl' hrun hs hr
      have hw : Wr c.w { c.w with heap := c.w.heap.setIfInBounds (c.φ tg) (.map en' cl') } (c.φ tg) (.map en' cl') := ⟨rfl, rfl, rfl, by simp, (heap_set hb).1, fun b hne => (heap_set hb).2 b hne⟩
      obtain ⟨i1, s1⟩ := bN4 hI he hw hs hr
      exact ⟨_, hrun, i1, s1, by simp [Ctx.put, hH], fun u hu => .inl (hu.elim id (fun e => e ▸ hT))⟩
     rcases hfind with ⟨rfl, h1⟩ | ⟨v', j, e, rfl, h1, h2, h3, h4, h5⟩
     ·have hp := (O7 hf).2 v
      refine fin (en.push { key := kv, val := vv, born := cl }) (cl + 1) ?_ (by rw [hp]; simp [hl]) (fun j x e hj he' => ?_)
      ·simp [Instr.mapUpdate, run_underlying hu, Go.MapKept.run_getObj_map hb, hcheck, h1, Go.MapKept.run_setObj_map _ hb, Result.andThen]
      ·rw [hp] at hj
       by_cases hjl : j < es.length
       ·rw [List.getElem?_append_left hjl] at hj
        rw [Array.getElem?_push, if_neg (by omega)] at he'
        exact hx j x e hj he'
       ·have hje : j = es.length := by
         have := (List.getElem?_eq_some_iff.1 hj).1
         simp at this; omega
        subst hje
        simp at hj
        rw [Array.getElem?_push, if_pos hl.symm] at he'
        injection he' with he'
        rw [← hj, ← he']
        exact ⟨hk, hv⟩
     ·have hj : j < en.size := (Array.getElem?_eq_some_iff.1 h2).1
      refine fin (en.modify j fun e => { e with key := kv, val := vv }) cl ?_ (by rw [h5 v]; simp [hl]) (fun i x e' hi he' => ?_)
      ·have hkk := hstays
       simp [Instr.mapUpdate, run_underlying hu, Go.MapKept.run_getObj_map hb, hcheck, h1, h2, h3, hkk, Go.MapKept.run_setObj_map _ hb, Result.andThen]
      ·rw [h5 v] at hi
       rw [Array.getElem?_modify] at he'
       by_cases hij : j = i
       ·subst hij
        rw [List.getElem?_set_self (by rw [← hl]; exact hj)] at hi
        simp [hj] at he'
        injection hi with hi
        rw [← hi, ← he']
        exact ⟨hk, hv⟩
       ·rw [List.getElem?_set_ne hij] at hi
        rw [if_neg hij] at he'
        exact hx i x e' hi he'
    ·cases h
   ·cases h
  ·cases h
 ·cases h
end
end Go.Proofs.YtpmjpogcaglphaaDoor.A
namespace Go.Proofs.YtpmjpogcaglphaaDoor.A
open Go
def df9 (st : Nat) (o : Oper) (nx nx' : Nat) (t : Tag) : Prop := (A2 o = true ∧ ∃ d, o.dst = some d ∧ t = (st, d)) ∨ (nx ≤ t.1 ∧ t.1 < nx')
section
variable {P : Program} {c : Ctx} {o : Oper} {a : n8} {ca : Act} {K : Act → World → Prop} {Q : Exit → Act → World → Prop}
theorem by6 {s : Sem Value} {v : Value} {w w' : World} (he : execOp ca.eval o = (do let x ← s; pure (.value x))) (hr : s.run P w = .ok v w') (h : K (ca.put o.dst v) w') : o.wp P ca w K Q := by
 unfold Oper.wp
 rw [he]
 simp only [Sem.run_bind, hr]
 simpa [Oper.upon] using h
theorem bO5 {s : Sem Unit} {w w' : World} (he : execOp ca.eval o = (do s; pure .skip)) (hr : s.run P w = .ok () w') (h : K (ca.put o.dst undef) w') : o.wp P ca w K Q := by
 unfold Oper.wp
 rw [he]
 simp only [Sem.run_bind, hr]
 simpa [Oper.upon] using h
def cb0 (P : Program) (c : Ctx) (o : Oper) (ca : Act) (K : Act → World → Prop) (Q : Exit → Act → World → Prop) (N : Tag → Prop) (v : AV) (Ho : Tag → Option AObj) : Prop :=
 (∀ c' cv, Inv c' → Step c c' → c'.H = Ho → (∀ t, c'.T t → c.T t ∨ N t) → VR c' v cv → K (ca.put o.dst cv) c'.w) → o.wp P ca c.w K Q
variable {N : Tag → Prop} {v : AV} {Ho : Tag → Option AObj}
theorem Q1 {s : Sem Value} (he : execOp ca.eval o = (do let x ← s; pure (.value x))) (h : bx1 P c N s v Ho) : cb0 P c o ca K Q N v Ho := fun hK => by
 obtain ⟨cv, c', hr, hi, hs, hH, hT, hv⟩ := h
 exact by6 he hr (hK c' cv hi hs hH hT hv)
theorem ay1 {s : Sem Unit} (he : execOp ca.eval o = (do s; pure .skip)) (h : by1 P c N s Ho) : cb0 P c o ca K Q N noV Ho := fun hK => by
 obtain ⟨c', hr, hi, hs, hH, hT⟩ := h
 exact bO5 he hr (hK c' _ hi hs hH hT (VR.noV_ c'))
theorem C1 (hI : Inv c) {s : Sem Value} (he : execOp ca.eval o = (do let x ← s; pure (.value x))) (h : Says P c s v) (hH : c.H = Ho) : cb0 P c o ca K Q N v Ho := Q1 he (h.does hI hH)
theorem am3 (hI : Inv c) {u : Value} (he : execOp ca.eval o = pure (.value u)) (h : VR c v u) (hH : c.H = Ho) : cb0 P c o ca K Q N v Ho := fun hK => by
 unfold Oper.wp
 rw [he]
 simpa [Oper.upon] using hK c u hI (Step.refl c) hH (fun t ht => .inl ht) h
theorem aL1 {g : FuncId} {cargs : Array Value} (he : (execOp ca.eval o).run P c.w = .ok (.enter g cargs) c.w) {nx nx' : Nat} (hN : ∀ t : Tag, nx ≤ t.1 ∧ t.1 < nx' → N t) (h : Calls P g cargs c.w (bK3 c nx nx' Ho v)) : cb0 P c o ca K Q N v Ho := fun hK => by
 unfold Oper.wp
 rw [he]
 simp only [Oper.upon]
 refine h.mono ?_
 rintro e w' ⟨u, c', rfl, rfl, hi, hs, hH, hv, hT⟩
 exact hK c' u hi hs hH (fun t ht => (hT t ht).imp id (hN t)) hv
theorem aa2 (hA : AR c a ca) {x : Operand} {i : Int} (h : Z6 a x = some i) : ca.eval x = .int .i64 i := by
 unfold Z6 at h
 cases hx : opd a x with
 | none => rw [hx] at h; cases h
 | some v =>
  rw [hx] at h
  exact bN8 (o9 hA hx) h
theorem aR7 (hA : AR c a ca) {x : Option Operand} {i : Option Int} (h : aC2 a x = some i) : x.map ca.eval = bV i := by
 cases x with
 | none => simp only [aC2] at h; injection h with h; subst h; rfl
 | some x =>
  simp only [aC2] at h
  cases hx : Z6 a x with
  | none => rw [hx] at h; cases h
  | some j =>
   rw [hx] at h
   simp only [Option.map_some] at h
   injection h with h
   subst h
   simp only [Option.map_some, bV, aa2 hA hx]
theorem am4 {parts : Array (Nat × Operand)} {ps : List (Nat × AV)} (hA : AR c a ca) (h : A4 a parts.toList = some ps) : V5 c ps (parts.map fun p => (p.1, ca.eval p.2)).toList := by
 have := al8 hA h
 simpa using this
theorem A0 {d : Option Nat} {f : Nat → Option (AV × AH)} {r : AV × AH} (h : ad7 d f = some r) : ∃ t, d = some t ∧ f t = some r := by
 cases d with
 | none => cases h
 | some t => exact ⟨t, rfl, h⟩
theorem d5 {α β : Type} {x : Option α} {f : α → Option β} {r : β} (h : x.bind f = some r) : ∃ y, x = some y ∧ f y = some r := by
 cases x with
 | none => cases h
 | some y => exact ⟨y, rfl, h⟩
theorem am5 {x : Option AV} {H H' : AH} (h : (x.map (·, H)) = some (v, H')) : x = some v ∧ H' = H := by
 cases x with
 | none => cases h
 | some y =>
  simp only [Option.map_some] at h
  injection h with h
  injection h with h1 h2
  exact ⟨by rw [h1], h2.symm⟩
theorem bO6 {x : AV} {l : List Value} (h : ListRel c [x] l) : ∃ u, l = [u] ∧ VR c x u := by
 match l, h with
 | [u], h => exact ⟨u, rfl, h.1⟩
theorem aR8 {x y : AV} {l : List Value} (h : ListRel c [x, y] l) : ∃ u v, l = [u, v] ∧ VR c x u ∧ VR c y v := by
 match l, h with
 | [u, v], h => exact ⟨u, v, rfl, h.1, h.2.1⟩
theorem bi1 {g : FuncId} (hE : N9 P g) (cargs : Array Value) (w : World) : (callFunc g cargs).run P w = .ok (.enter g cargs) w := by
 obtain ⟨fn, hf, hn, hb⟩ := hE
 have hn' : ¬ fn.name = "runtime.NumGoroutine" := by simpa using hn
 simp only [callFunc, Sem.run_bind, run_program, Result.andThen_ok, hf, hn, hb]
 simp
theorem aD7 {t : TypeId} {p x : AV} {H H' : AH} (h : H4 P t p x H = some H') : H'.nx = H.nx := by
 unfold H4 at h
 split at h
 ·split at h
  ·split at h
   ·injection h with h; subst h; rfl
   ·cases h
  ·cases h
 ·cases h
theorem au1 {tg : Tag} {t xt : TypeId} {s x : AV} {H H' : AH} (h : w6 P tg t xt s x H = some (v, H')) : H'.nx = H.nx := by
 unfold w6 at h
 split at h
 ·cases h
 ·split at h
  ·split at h
   ·cases h
   ·split at h
    ·split at h
     ·injection h with h; injection h with h1 h2; subst h2; rfl
     ·split at h
      ·injection h with h; injection h with h1 h2; subst h2; rfl
      ·cases h
    ·split at h
     ·split at h
      ·injection h with h; injection h with h1 h2; subst h2; rfl
      ·cases h
     ·cases h
    ·cases h
  ·cases h
theorem aR9 {t : TypeId} {s x : AV} {H H' : AH} (h : P7 P t s x H = some (v, H')) : H'.nx = H.nx := by
 unfold P7 at h
 split at h
 ·split at h
  ·split at h
   ·dsimp only at h
    split at h
    ·injection h with h; injection h with h1 h2; subst h2; rfl
    ·cases h
   ·cases h
  ·split at h
   ·injection h with h; injection h with h1 h2; subst h2; rfl
   ·cases h
  ·cases h
 ·cases h
theorem am6 {tg : Tag} {s t : TypeId} {x : AV} {H H' : AH} (h : f6 P tg s t x H = some (v, H')) : H'.nx = H.nx := by
 unfold f6 at h
 split at h
 ·injection h with h; injection h with h1 h2; subst h2; rfl
 ·injection h with h; injection h with h1 h2; subst h2; rfl
 ·split at h
  ·injection h with h; injection h with h1 h2; subst h2; rfl
  ·cases h
 ·split at h
  ·split at h
   ·rename_i n cs _
    split at h
    ·cases hb : R9 cs with
     | none => rw [hb] at h; cases h
     | some bs => rw [hb] at h; injection h with h; injection h with h1 h2; rw [← h2]
    ·cases h
   ·cases h
  ·cases h
 ·cases h
theorem I7 {t : TypeId} {m k x : AV} {H H' : AH} (h : m6 P t m k x H = some H') : H'.nx = H.nx := by
 unfold m6 at h
 repeat' (split at h)
 all_goals first | (injection h with h; rw [← h]) | cases h
theorem bK4 {α : Type} {d : α} {xs : Array α} (h : 0 < xs.size) : ∃ rest, xs = (xs.getD 0 d :: rest).toArray := by
 obtain ⟨l⟩ := xs
 cases l with
 | nil => simp at h
 | cons x l => exact ⟨l, by simp⟩
theorem cg3 {α : Type} {d : α} {xs : Array α} (h : xs.size = 2) : xs = #[xs.getD 0 d, xs.getD 1 d] := by
 obtain ⟨l⟩ := xs
 match l, h with
 | [x, y], _ => rfl
theorem aD8 {E : Env} {callP : F9} {callR : q8} (hP : m7 E.P callP) (hX : m7 E.P E.ext) (hR : u9 E.P callR) {st : Nat} {H H' : AH} (hI : Inv c) (hH : c.H = H.o) (hA : AR c a ca) (hnx : ∀ t, c.T t → t.1 < H.nx)
  (hd : ∀ d, o.dst = some d → A2 o = true → ¬ c.T (st, d)) (h : f9 E callP callR st o a H = some (v, H')) : H.nx ≤ H'.nx ∧ cb0 E.P c o ca K Q (df9 st o H.nx H'.nx) v H'.o := by
 unfold f9 at h
 split at h
 ·-- move
  rename_i x ho
  replace h := am5 h
  obtain ⟨h, rfl⟩ := h
  exact ⟨Nat.le_refl _, am3 hI (by simp only [execOp, ho]) (o9 hA h) hH⟩
 ·rename_i x ho
  replace h := am5 h
  obtain ⟨h, rfl⟩ := h
  exact ⟨Nat.le_refl _, am3 hI (by simp only [execOp, ho]) (o9 hA h) hH⟩
 ·-- pick
  rename_i co x y ho
  split at h
  ·rename_i hc
   replace h := am5 h
   obtain ⟨h, rfl⟩ := h
   have hb := (o9 hA hc).bool_
   refine ⟨Nat.le_refl _, C1 (s := do pure (if ← asBool (ca.eval co) then ca.eval x else ca.eval y)) hI (by simp only [execOp, ho, bind_pure_comp, Functor.map_map]) ⟨ca.eval x, by simp [hb, asBool], o9 hA h⟩ hH⟩
  ·rename_i hc
   replace h := am5 h
   obtain ⟨h, rfl⟩ := h
   have hb := (o9 hA hc).bool_
   refine ⟨Nat.le_refl _, C1 (s := do pure (if ← asBool (ca.eval co) then ca.eval x else ca.eval y)) hI (by simp only [execOp, ho, bind_pure_comp, Functor.map_map]) ⟨ca.eval y, by simp [hb, asBool], o9 hA h⟩ hH⟩
  ·cases h
 ·-- alloc
  rename_i e ho
  have hcr : A2 o = true := by simp [A2, ho]
  split at h
  ·rename_i d z hdst hz
   injection h with h
   injection h with h1 h2
   subst h1; subst h2
   exact ⟨Nat.le_refl _, Q1 (by simp only [execOp, ho]) (bh5 hI (hd d hdst hcr) hH hz (.inl ⟨hcr, d, hdst, rfl⟩))⟩
  ·cases h
 ·-- box
  rename_i e x ho
  have hcr : A2 o = true := by simp [A2, ho]
  split at h
  ·rename_i d z hdst hz
   split at h
   ·rename_i hc
    injection h with h
    injection h with h1 h2
    subst h1; subst h2
    exact ⟨Nat.le_refl _, Q1 (by simp only [execOp, ho]) (bO0 hI (hd d hdst hcr) hH (o9 hA hz) hc (.inl ⟨hcr, d, hdst, rfl⟩))⟩
   ·cases h
  ·cases h
 ·-- build
  rename_i t parts ho
  replace h := d5 h
  obtain ⟨ps, hps, h⟩ := h
  replace h := am5 h
  obtain ⟨h, rfl⟩ := h
  exact ⟨Nat.le_refl _, C1 hI (by simp only [execOp, ho]) (bh8 (am4 hA hps) h) hH⟩
 ·-- buildSlice
  rename_i t len parts ho
  have hcr : A2 o = true := by simp [A2, ho]
  replace h := A0 h
  obtain ⟨d, hdst, h⟩ := h
  replace h := d5 h
  obtain ⟨ps, hps, h⟩ := h
  have hnx' : H'.nx = H.nx := by
   unfold l7 at h
   repeat' (split at h)
   all_goals first | (injection h with h; injection h with h1 h2; rw [← h2]; rfl) | cases h
  exact ⟨by rw [hnx']; exact Nat.le_refl _, Q1 (by simp only [execOp, ho]) (ar6 hI (hd d hdst hcr) hH (.inl ⟨hcr, d, hdst, rfl⟩) (am4 hA hps) h)⟩
 ·-- load
  rename_i t x ho
  replace h := d5 h
  obtain ⟨p, hp, h⟩ := h
  replace h := am5 h
  obtain ⟨h, rfl⟩ := h
  obtain ⟨cv, h1, h2⟩ := aD0 hI hH (o9 hA hp) h
  exact ⟨Nat.le_refl _, C1 hI (by simp only [execOp, ho]) ⟨cv, h1, h2⟩ hH⟩
 ·-- store
  rename_i t p x ho
  replace h := d5 h
  obtain ⟨pv, hp, h⟩ := h
  replace h := d5 h
  obtain ⟨xv, hx, h⟩ := h
  obtain ⟨hs, hv0⟩ : H4 E.P t pv xv H = some H' ∧ noV = v := by
   cases hs : H4 E.P t pv xv H with
   | none => rw [hs] at h; cases h
   | some H1 => rw [hs] at h; simp only [Option.map_some] at h; injection h with h; injection h with h1 h2; exact ⟨by rw [h2], h1⟩
  clear h
  subst hv0
  exact ⟨by rw [aD7 hs]; exact Nat.le_refl _, ay1 (by simp only [execOp, ho]) (bh7 hI hH (o9 hA hp) (o9 hA hx) hs)⟩
 ·-- nilCheck
  rename_i x ho
  split at h
  ·rename_i k g off hx
   injection h with h
   injection h with h1 h2
   subst h1; subst h2
   have hv := o9 hA hx
   obtain ⟨_, _, ad, e, _⟩ := hv.ptr_
   exact ⟨Nat.le_refl _, am3 (u := ca.eval x) hI (by simp only [execOp, ho, e]) hv hH⟩
  ·rename_i cs hx
   injection h with h
   injection h with h1 h2
   subst h1; subst h2
   have hv := o9 hA hx
   obtain ⟨ad, e, _⟩ := hv.fptr_
   exact ⟨Nat.le_refl _, am3 (u := ca.eval x) hI (by simp only [execOp, ho, e]) hv hH⟩
  ·rename_i f first captured hx
   injection h with h
   injection h with h1 h2
   subst h1; subst h2
   have hv := o9 hA hx
   obtain ⟨us, vs, e, _⟩ := hv.fn_
   exact ⟨Nat.le_refl _, am3 (u := ca.eval x) hI (by simp only [execOp, ho, e]) hv hH⟩
  ·cases h
 ·-- binOp
  rename_i op t x y _ ho
  replace h := d5 h
  obtain ⟨u, hu, h⟩ := h
  replace h := d5 h
  obtain ⟨u', hu', h⟩ := h
  replace h := am5 h
  obtain ⟨h, rfl⟩ := h
  exact ⟨Nat.le_refl _, C1 hI (by simp only [execOp, ho]) (bN7 (ox := x) (oy := y) (o9 hA hu) (o9 hA hu') h) hH⟩
 ·-- unOp
  rename_i op t x ho
  replace h := d5 h
  obtain ⟨u, hu, h⟩ := h
  replace h := am5 h
  obtain ⟨h, rfl⟩ := h
  exact ⟨Nat.le_refl _, C1 hI (by simp only [execOp, ho]) (cg2 (o9 hA hu) h) hH⟩
 ·-- convert
  rename_i s t x ho
  have hcr : A2 o = true := by simp [A2, ho]
  replace h := A0 h
  obtain ⟨d, hdst, h⟩ := h
  replace h := d5 h
  obtain ⟨u, hu, h⟩ := h
  have hnx' := am6 h
  exact ⟨by rw [hnx']; exact Nat.le_refl _, Q1 (by simp only [execOp, ho]) (aK9 hI (hd d hdst hcr) hH (.inl ⟨hcr, d, hdst, rfl⟩) (o9 hA hu) h)⟩
 ·-- makeFunc
  rename_i fn first captured ho
  split at h
  ·rename_i fs cs hf hc
   injection h with h
   injection h with h1 h2
   subst h1; subst h2
   have l1 := (aj4 hA hf).lr
   have l2 := (aj4 hA hc).lr
   refine ⟨Nat.le_refl _, C1 (s := Instr.makeFunc fn (first.map ca.eval) (captured.map ca.eval)) hI (by simp only [execOp, ho]) ⟨.func fn (first.map ca.eval) (captured.map ca.eval), by simp [Instr.makeFunc], ?_⟩ hH⟩
   refine .fn fn fs cs _ _ (by have := l1.1; simpa using this) (by have := l2.1; simpa using this) (fun j x u hx hu => l1.2 j x u hx ?_) (fun j x u hx hu => l2.2 j x u hx ?_)
   ·simpa using hu
   ·simpa using hu
  ·cases h
 ·-- makeMap
  rename_i ty ho
  have hcr : A2 o = true := by simp [A2, ho]
  split at h
  ·rename_i d hdst
   injection h with h
   injection h with h1 h2
   subst h1; subst h2
   exact ⟨Nat.le_refl _, Q1 (by simp only [execOp, ho]; rfl) (aL0 hI (hd d hdst hcr) hH (.inl ⟨hcr, d, hdst, rfl⟩))⟩
  ·cases h
 ·-- makeSlice
  rename_i t l cp ho
  have hcr : A2 o = true := by simp [A2, ho]
  replace h := A0 h
  obtain ⟨d, hdst, h⟩ := h
  replace h := d5 h
  obtain ⟨lv, hl, h⟩ := h
  replace h := d5 h
  obtain ⟨cv, hc, h⟩ := h
  have hnx' : H'.nx = H.nx := by
   unfold q7 at h
   repeat' (split at h)
   all_goals first | (injection h with h; injection h with h1 h2; rw [← h2]; rfl) | cases h
  exact ⟨by rw [hnx']; exact Nat.le_refl _, Q1 (s := Instr.makeSlice t (.int .i64 lv) (.int .i64 cv)) (by simp only [execOp, ho, aa2 hA hl, aa2 hA hc]) (by2 hI (hd d hdst hcr) hH (.inl ⟨hcr, d, hdst, rfl⟩) h)⟩
 ·-- slice
  rename_i t x lo hi ho
  replace h := d5 h
  obtain ⟨u, hu, h⟩ := h
  replace h := d5 h
  obtain ⟨l, hl, h⟩ := h
  replace h := d5 h
  obtain ⟨hh, hhi, h⟩ := h
  replace h := am5 h
  obtain ⟨h, rfl⟩ := h
  exact ⟨Nat.le_refl _, C1 (s := Instr.sliceAt t (ca.eval x) (bV l) (bV hh) none) hI (by simp only [execOp, ho, aR7 hA hl, aR7 hA hhi]; rfl) (bh3 (o9 hA hu) h) hH⟩
 ·-- fieldAddr
  rename_i t x f ho
  cases hx : opd a x with
  | none => rw [hx] at h; cases h
  | some u =>
   rw [hx] at h
   obtain ⟨h1, h2⟩ := ax7 (v := v) (o9 hA hx) h
   dsimp only at h1 h2
   subst h2
   exact ⟨Nat.le_refl _, C1 hI (by simp only [execOp, ho]) h1 hH⟩
 ·-- field
  rename_i t x f ho
  cases hx : opd a x with
  | none => rw [hx] at h; cases h
  | some u =>
   rw [hx] at h
   obtain ⟨h1, h2⟩ := bh1 (v := v) (o9 hA hx) h
   dsimp only at h1 h2
   subst h2
   exact ⟨Nat.le_refl _, C1 hI (by simp only [execOp, ho]) h1 hH⟩
 ·-- indexAddr
  rename_i t x i ho
  replace h := d5 h
  obtain ⟨u, hu, h⟩ := h
  replace h := d5 h
  obtain ⟨j, hj, h⟩ := h
  replace h := am5 h
  obtain ⟨h, rfl⟩ := h
  exact ⟨Nat.le_refl _, C1 (s := Instr.indexAt t (ca.eval x) (.int .i64 j)) hI (by simp only [execOp, ho, aa2 hA hj]) (ax8 (o9 hA hu) h) hH⟩
 ·-- index
  rename_i t x i ho
  replace h := d5 h
  obtain ⟨u, hu, h⟩ := h
  replace h := d5 h
  obtain ⟨j, hj, h⟩ := h
  replace h := am5 h
  obtain ⟨h, rfl⟩ := h
  exact ⟨Nat.le_refl _, C1 (s := Instr.index t (ca.eval x) (.int .i64 j)) hI (by simp only [execOp, ho, aa2 hA hj]) (bh2 (o9 hA hu) h) hH⟩
 ·-- lookup
  rename_i t m k ok ho
  replace h := d5 h
  obtain ⟨mv, hm, h⟩ := h
  replace h := d5 h
  obtain ⟨kv, hk, h⟩ := h
  replace h := am5 h
  obtain ⟨h, rfl⟩ := h
  exact ⟨Nat.le_refl _, C1 hI (by simp only [execOp, ho]) (aZ4 hI hH (o9 hA hm) (o9 hA hk) h) hH⟩
 ·-- mapUpdate
  rename_i t m k x ho
  replace h := d5 h
  obtain ⟨mv, hm, h⟩ := h
  replace h := d5 h
  obtain ⟨kv, hk, h⟩ := h
  replace h := d5 h
  obtain ⟨xv, hx, h⟩ := h
  obtain ⟨hs, hv0⟩ : m6 E.P t mv kv xv H = some H' ∧ noV = v := by
   cases hs : m6 E.P t mv kv xv H with
   | none => rw [hs] at h; cases h
   | some H1 => rw [hs] at h; simp only [Option.map_some] at h; injection h with h; injection h with h1 h2; exact ⟨by rw [h2], h1⟩
  clear h
  subst hv0
  exact ⟨by rw [I7 hs]; exact Nat.le_refl _, ay1 (by simp only [execOp, ho]) (au0 hI hH (o9 hA hm) (o9 hA hk) (o9 hA hx) hs)⟩
 ·-- insert
  rename_i t m k x ho
  replace h := d5 h
  obtain ⟨mv, hm, h⟩ := h
  replace h := d5 h
  obtain ⟨kv, hk, h⟩ := h
  replace h := d5 h
  obtain ⟨xv, hx, h⟩ := h
  obtain ⟨hs, hv0⟩ : m6 E.P t mv kv xv H = some H' ∧ noV = v := by
   cases hs : m6 E.P t mv kv xv H with
   | none => rw [hs] at h; cases h
   | some H1 => rw [hs] at h; simp only [Option.map_some] at h; injection h with h; injection h with h1 h2; exact ⟨by rw [h2], h1⟩
  clear h
  subst hv0
  exact ⟨by rw [I7 hs]; exact Nat.le_refl _, ay1 (by simp only [execOp, ho]) (au0 hI hH (o9 hA hm) (o9 hA hk) (o9 hA hx) hs)⟩
 ·-- extract
  rename_i t i ho
  split at h
  ·rename_i vs hx
   replace h := am5 h
   obtain ⟨h, rfl⟩ := h
   have hv := o9 hA hx
   obtain ⟨us, e, hl, hh⟩ := hv.tup_
   have hi : i < us.size := by have := (List.getElem?_eq_some_iff.1 h).1; omega
   refine ⟨Nat.le_refl _, C1 (s := Instr.extract (ca.eval t) i) hI (by simp only [execOp, ho]) ⟨us[i], ?_, hh i v us[i] h (by simp [hi])⟩ hH⟩
   rw [e]
   simp [Instr.extract, hi]
  ·cases h
 ·-- call
  rename_i cl ho
  replace h := d5 h
  obtain ⟨args, hargs, h⟩ := h
  have hl := aj4 hA hargs
  have harr : (cl.args.map ca.eval) = (cl.args.toList.map ca.eval).toArray := Array.toList_inj.1 (by simp)
  have hb : ∀ {b : Builtin}, cl.callee = .builtin b → ∀ (r : Sem Next), builtin b cl.argTypes o.type (cl.args.map fun | .const _ => true | _ => false) (cl.args.map ca.eval) = r → execOp ca.eval o = r := fun hcal r hr => by
   rw [← hr]
   simp only [execOp, ho, resolve, hcal, pure_bind, invoke]
   rfl
  split at h
  ·-- a function's value
   rename_i f hcal
   replace h := d5 h
   obtain ⟨fv, hf, h⟩ := h
   unfold ai5 at h
   split at h
   ·rename_i g first captured
    have hfv := o9 hA hf
    obtain ⟨us, vs, e, l1, l2, h1, h2⟩ := hfv.fn_
    have hall : LR (VR c) (first ++ args ++ captured) (us.toList ++ cl.args.toList.map ca.eval ++ vs.toList) := ((LR.array l1 h1).append hl.lr).append (LR.array l2 h2)
    have hrun : N9 E.P g → (execOp ca.eval o).run E.P c.w = .ok (.enter g (us.toList ++ cl.args.toList.map ca.eval ++ vs.toList).toArray) c.w := fun hE => by
     have : (us.toList ++ cl.args.toList.map ca.eval ++ vs.toList).toArray = us ++ cl.args.map ca.eval ++ vs := by
      apply Array.toList_inj.1
      simp
     rw [this]
     simp only [execOp, ho, resolve, hcal, e, Deferred.ofValue, Sem.run_bind, Sem.run_pure, invoke]
     exact bi1 hE _ _
    dsimp only at h
    split at h
    ·rename_i sc hm
     replace h := d5 h
     obtain ⟨r, hr, h⟩ := h
     obtain ⟨hE, hn, hc⟩ := aD5 hI hP hH hr h hall
     exact ⟨by rw [hn]; exact Nat.le_refl _, aL1 (hrun hE) (fun t ht => .inr ht) hc⟩
    ·rename_i sc hm
     replace h := d5 h
     obtain ⟨r, hr, h⟩ := h
     obtain ⟨hE, hn, hc⟩ := aD5 hI hX hH hr h hall
     exact ⟨by rw [hn]; exact Nat.le_refl _, aL1 (hrun hE) (fun t ht => .inr ht) hc⟩
    ·rename_i frz hm
     obtain ⟨p, hp, hh⟩ : ∃ p, callR g (first ++ args ++ captured) H = some p ∧ p8 frz p.1 p.2 = (v, H') := by
      cases hs : callR g (first ++ args ++ captured) H with
      | none => rw [hs] at h; cases h
      | some p => rw [hs] at h; simp only [Option.map_some] at h; injection h with h; exact ⟨p, rfl, h⟩
     obtain ⟨hE, hn, hc⟩ := by4 (frz := frz) hI hR hH hnx (show callR g _ H = some (p.1, p.2) from hp) hall
     rw [hh] at hn hc
     exact ⟨hn, aL1 (hrun hE) (fun t ht => .inr ht) hc⟩
   ·cases h
  ·-- len
   rename_i hcal
   split at h
   ·rename_i x
    replace h := am5 h
    obtain ⟨h, rfl⟩ := h
    obtain ⟨cx, hcx, hx⟩ := bO6 hl
    generalize hg : cl.argTypes.getD 0 0 = ty0 at h
    split at h
    ·rename_i h0
     rw [hH.symm] at h
     obtain ⟨rest, hts⟩ := bK4 (d := 0) h0
     rw [hg] at hts
     refine ⟨Nat.le_refl _, C1 hI (hb hcal _ rfl) ?_ hH⟩
     rw [harr, hcx, hts]
     exact bO2 hI hx h
    ·cases h
   ·cases h
  ·-- append
   rename_i hcal
   split at h
   ·rename_i s x
    split at h
    ·rename_i h2
     have hcr : A2 o = true := by simp [A2, ho, hcal]
     replace h := A0 h
     obtain ⟨d, hdst, h⟩ := h
     obtain ⟨cs, cx, hcx, hs, hx⟩ := aR8 hl
     refine ⟨by rw [au1 h]; exact Nat.le_refl _, Q1 (hb hcal _ rfl) ?_⟩
     rw [harr, hcx, cg3 (d := 0) h2]
     exact aZ0 hI (hd d hdst hcr) hH (.inl ⟨hcr, d, hdst, rfl⟩) hs hx h
    ·cases h
   ·cases h
  ·-- copy
   rename_i hcal
   split at h
   ·rename_i s x
    generalize hg : cl.argTypes.getD 0 0 = ty0 at h
    split at h
    ·rename_i h0
     obtain ⟨cs, cx, hcx, hs, hx⟩ := aR8 hl
     obtain ⟨rest, hts⟩ := bK4 (d := 0) h0
     rw [hg] at hts
     refine ⟨by rw [aR9 h]; exact Nat.le_refl _, Q1 (hb hcal _ rfl) ?_⟩
     rw [harr, hcx, hts]
     exact by3 (xt := 0) hI hH hs hx h
    ·cases h
   ·cases h
  ·-- max
   rename_i hcal
   replace h := am5 h
   obtain ⟨h, rfl⟩ := h
   refine ⟨Nat.le_refl _, C1 hI (hb hcal _ rfl) ?_ hH⟩
   rw [harr]
   exact bO3 hl h
  ·rename_i hcal
   replace h := am5 h
   obtain ⟨h, rfl⟩ := h
   refine ⟨Nat.le_refl _, C1 hI (hb hcal _ rfl) ?_ hH⟩
   rw [harr]
   exact bO4 hl h
  ·cases h
 ·cases h
end
end Go.Proofs.YtpmjpogcaglphaaDoor.A
namespace Go.Proofs.YtpmjpogcaglphaaDoor.A
open Go
theorem V8 {a b : n8} : ∀ {l : List Operand}, (∀ x ∈ l, opd a x = opd b x) → R8 a l = R8 b l
 | [], _ => rfl
 | x :: l, h => by
  simp only [R8]
  rw [h x (List.mem_cons_self ..), V8 (fun y hy => h y (List.mem_cons_of_mem _ hy))]
theorem Q2 {a b : n8} : ∀ {l : List (Nat × Operand)}, (∀ p ∈ l, opd a p.2 = opd b p.2) → A4 a l = A4 b l
 | [], _ => rfl
 | (i, x) :: l, h => by
  simp only [A4]
  rw [h (i, x) (List.mem_cons_self ..), Q2 (fun y hy => h y (List.mem_cons_of_mem _ hy))]
theorem O8 {a b : n8} {x : Operand} (h : opd a x = opd b x) : Z6 a x = Z6 b x := by simp only [Z6, h]
theorem au2 {a b : n8} {x : Option Operand} (h : ∀ y, x = some y → opd a y = opd b y) : aC2 a x = aC2 b x := by
 cases x with
 | none => rfl
 | some y => simp only [aC2, O8 (h y rfl)]
theorem aD9 {E : Env} {cp : F9} {cr : q8} {st : Nat} {o : Oper} {a b : n8} {H : AH} (h : ∀ x ∈ o.op.operands, opd a x = opd b x) : f9 E cp cr st o a H = f9 E cp cr st o b H := by
 obtain ⟨dst, op, type, pos, after, guard⟩ := o
 cases op <;> simp only [Op.operands] at h <;> simp only [f9]
 case build t ps => rw [Q2 fun p hp => h p.2 (by simp; exact ⟨p.1, by simpa using hp⟩)]
 case buildSlice t n ps => rw [Q2 fun p hp => h p.2 (by simp; exact ⟨p.1, by simpa using hp⟩)]
 case makeFunc fn first captured => rw [V8 fun x hx => h x (by simp at hx; simp [hx]), V8 (l := captured.toList) fun x hx => h x (by simp at hx; simp [hx])]
 case slice t x lo hi mx =>
  cases mx with
  | some m => rfl
  | none =>
   dsimp only
   rw [h x (by simp), au2 (x := lo) fun y hy => h y (by simp [hy]), au2 (x := hi) fun y hy => h y (by simp [hy])]
 case call c =>
  rw [V8 fun x hx => h x (by simp at hx; simp [Call.operands, hx])]
  cases hc : c.callee with
  | value f => simp only [h f (by simp [Call.operands, hc])]
  | invoke r m => rfl
  | builtin bi => cases bi <;> rfl
 case makeMap t r => cases r <;> rfl
 case lookup t m k ok => rw [h m (by simp), h k (by simp)]
 case mapUpdate t m k v => rw [h m (by simp), h k (by simp), h v (by simp)]
 case insert t m k v => rw [h m (by simp), h k (by simp), h v (by simp)]
 case makeSlice t l c => rw [O8 (h l (by simp)), O8 (h c (by simp))]
 case indexAddr t x i => rw [h x (by simp), O8 (h i (by simp))]
 case index t x i => rw [h x (by simp), O8 (h i (by simp))]
 all_goals (first | rfl | (simp_all; done))
theorem bO7 {a : n8} {d : Option Nat} {v : AV} {x : Operand} (h : ∀ t, d = some t → x ≠ .tmp t) : opd (J7 a d v) x = opd a x := by
 cases d with
 | none => rfl
 | some t =>
  cases x with
  | tmp u =>
   have : u ≠ t := fun e => h t rfl (by rw [e])
   simp only [opd, J7, bK0 _ _ _ _ this]
  | _ => rfl
theorem aE0 {ops : Array Oper} {o : Oper} {a : n8} {d : Option Nat} {v : AV} (h : ∀ t, d = some t → t ∉ o.looksAt ops) : ∀ x ∈ o.op.operands, opd (J7 a d v) x = opd a x := fun x hx =>
 bO7 fun t ht e => h t ht (by
  subst e
  exact List.mem_append_left _ (List.mem_filterMap.2 ⟨.tmp t, by simpa using hx, rfl⟩))
theorem ag8 {ops : Array Oper} {o : Oper} {a : n8} {d : Option Nat} {v : AV} (h : ∀ t, d = some t → t ∉ o.looksAt ops) : y9 ops (J7 a d v) o = y9 ops a o := by
 cases d with
 | none => rfl
 | some t =>
  unfold y9
  cases hg : o.guard with
  | none => rfl
  | some gw =>
   obtain ⟨g, want⟩ := gw
   have : C6 ops (J7 a (some t) v) g = C6 ops a g := by
    unfold C6
    cases ht : (ops[g]?).bind (·.dst) with
    | none => rfl
    | some u =>
     have hne : u ≠ t := fun e => h t rfl (by subst e; simp [Oper.looksAt, hg, ht])
     simp only [J7, bK0 _ _ _ _ hne]
   dsimp only
   rw [this]
theorem aZ5 {E : Env} {st : Nat} {ops : Array Oper} {o : Oper} {a b : n8} {H : AH} (hw : y9 ops a o = y9 ops b o) (h : ∀ x ∈ o.op.operands, opd a x = opd b x) : z8 E st ops o a H = z8 E st ops o b H := by
 have fm : ∀ {l : List Operand}, (∀ x ∈ l, opd a x = opd b x) → l.filterMap (opd a) = l.filterMap (opd b) := fun {l} hl => by
  induction l with
  | nil => rfl
  | cons x l ih =>
   simp only [List.filterMap_cons, hl x (List.mem_cons_self ..)]
   rw [ih (fun y hy => hl y (List.mem_cons_of_mem _ hy))]
 have fl : ∀ {l : List Operand}, (∀ x ∈ l, opd a x = opd b x) → l.flatMap (fun x => O3 (opd a x)) = l.flatMap (fun x => O3 (opd b x)) := fun {l} hl => by
  induction l with
  | nil => rfl
  | cons x l ih =>
   simp only [List.flatMap_cons, hl x (List.mem_cons_self ..)]
   rw [ih (fun y hy => hl y (List.mem_cons_of_mem _ hy))]
 unfold z8
 rw [hw]
 split
 ·rename_i hgo
  clear hgo hw
  obtain ⟨dst, op, type, pos, after, guard⟩ := o
  cases op <;> simp only [Op.operands] at h <;> dsimp only
  case call c =>
   have hargs : ∀ x ∈ c.args.toList, opd a x = opd b x := fun x hx => h x (by simp at hx; simp [Call.operands, hx])
   have at_ : ∀ i : Nat, (c.args.toList[i]?).bind (opd a) = (c.args.toList[i]?).bind (opd b) := fun i => by
    cases hx : c.args.toList[i]? with
    | none => rfl
    | some x => simp only [Option.bind_some]; exact hargs x (List.mem_of_getElem? hx)
   rw [fm hargs, fl hargs, at_ 0, at_ 1]
   cases hc : c.callee with
   | value f => simp only [h f (by simp [Call.operands, hc])]
   | invoke r m => rfl
   | builtin bi => cases bi <;> rfl
  all_goals (first | rfl | (simp_all; done))
 ·rfl
def Same (ts : List Tag) (o o' : Tag → Option AObj) : Prop := ∀ t ∈ ts, o' t = o t
theorem Same.left {ts us : List Tag} {o o' : Tag → Option AObj} (h : Same (ts ++ us) o o') : Same ts o o' := fun t ht => h t (List.mem_append_left _ ht)
theorem Same.right {ts us : List Tag} {o o' : Tag → Option AObj} (h : Same (ts ++ us) o o') : Same us o o' := fun t ht => h t (List.mem_append_right _ ht)
theorem K2 {o o' : Tag → Option AObj} {k g : Tag} (h : o' k = o k) : W7 o' k g = W7 o k g := by simp only [W7, h]
theorem au3 {o o' : Tag → Option AObj} {x : AV} (h : Same (y8 x) o o') : z7 o' x = z7 o x := by
 unfold z7
 cases x with
 | ref k g off n => simp only [K2 (g := g) (h k (by simp [y8]))]
 | _ => rfl
theorem aa3 {o o' : Tag → Option AObj} {x : AV} (h : Same (y8 x) o o') : D2 o' x = D2 o x := by
 unfold D2
 cases x with
 | str s => rfl
 | _ => exact au3 h
theorem bi2 {P : Program} {t : TypeId} {x : AV} {H H' : AH} (h : Same (y8 x) H.o H'.o) : N4 P t x H' = N4 P t x H := by
 unfold N4
 cases x with
 | ptr k g off => simp only [K2 (g := g) (h k (by simp [y8]))]
 | _ => rfl
theorem aE1 {o o' : Tag → Option AObj} : ∀ (d : Nat) (x : AV), Same (b9 o d x) o o' → b9 o' d x = b9 o d x ∧ view o' d x = view o d x
 | 0, x, _ => ⟨rfl, rfl⟩
 | d + 1, x, h => by
  have list : ∀ (l : List AV), Same (l.flatMap (b9 o d)) o o' → l.flatMap (b9 o' d) = l.flatMap (b9 o d) ∧ l.map (view o' d) = l.map (view o d) := fun l => by
   induction l with
   | nil => exact fun _ => ⟨rfl, rfl⟩
   | cons y l ih =>
    intro hl
    simp only [List.flatMap_cons] at hl
    obtain ⟨i1, i2⟩ := aE1 d y hl.left
    obtain ⟨j1, j2⟩ := ih hl.right
    simp only [List.flatMap_cons, List.map_cons, i1, i2, j1, j2, and_self]
  cases x with
  | agg cs => obtain ⟨i1, i2⟩ := list cs h; simp only [b9, view, i1, i2, and_self]
  | tup cs => obtain ⟨i1, i2⟩ := list cs h; simp only [b9, view, i1, i2, and_self]
  | fn f fs cs =>
   simp only [b9] at h
   obtain ⟨i1, i2⟩ := list fs h.left
   obtain ⟨j1, j2⟩ := list cs h.right
   simp only [b9, view, i1, i2, j1, j2, and_self]
  | ref k g off n =>
   have hk : o' k = o k := by
    refine h k ?_
    simp only [b9]
    split <;> simp
   simp only [b9, view, K2 (g := g) hk]
   cases hr : W7 o k g with
   | none => exact ⟨rfl, rfl⟩
   | some r =>
    simp only [b9, hr] at h
    obtain ⟨i1, i2⟩ := list _ (fun t ht => h t (List.mem_cons_of_mem _ ht))
    dsimp only
    rw [i1, i2]
    exact ⟨rfl, rfl⟩
  | ptr k g off =>
   have hk : o' k = o k := by
    refine h k ?_
    simp only [b9]
    split <;> simp
   simp only [b9, view, K2 (g := g) hk]
   cases hr : W7 o k g with
   | none => exact ⟨rfl, rfl⟩
   | some r =>
    simp only [b9, hr] at h
    obtain ⟨i1, i2⟩ := list _ (fun t ht => h t (List.mem_cons_of_mem _ ht))
    dsimp only
    rw [i1, i2]
    exact ⟨rfl, rfl⟩
  | _ => exact ⟨rfl, rfl⟩
theorem ae6 {o o' : Tag → Option AObj} (d : Nat) : ∀ (l : List AV), Same (l.flatMap (b9 o d)) o o' → l.flatMap (b9 o' d) = l.flatMap (b9 o d) ∧ l.map (view o' d) = l.map (view o d)
 | [], _ => ⟨rfl, rfl⟩
 | y :: l, hl => by
  simp only [List.flatMap_cons] at hl
  obtain ⟨i1, i2⟩ := aE1 d y hl.left
  obtain ⟨j1, j2⟩ := ae6 d l hl.right
  simp only [List.flatMap_cons, List.map_cons, i1, i2, j1, j2, and_self]
def ad4 (D : Tag → Option AObj) (H : AH) : AH := { H with o := fun t => match D t with | some x => some x | none => H.o t }
theorem B5 (H : AH) (t : Tag) (x : AObj) : ({ H with o := upd H.o t x } : AH) = ad4 (upd (fun _ => none) t x) H := by
 simp only [ad4, AH.mk.injEq, and_true]
 funext u
 unfold upd
 by_cases e : u = t
 ·simp only [e, if_true]
 ·simp only [e, if_false]
structure Local (ev : AH → Option (AV × AH)) (ft : AH → FP) (H : AH) (v : AV) (H' : AH) (D : Tag → Option AObj) : Prop where
 w : ∀ t x, D t = some x → t ∈ (ft H).w
 out : H' = ad4 D H
 same : ∀ H2 : AH, Same ((ft H).r ++ (ft H).w) H.o H2.o → ev H2 = some (v, ad4 D H2) ∧ ft H2 = ft H
theorem aL2 {E : Env} {st : Nat} {ops : Array Oper} {o : Oper} {a : n8} (hw : y9 ops a o = some true) (H : AH) : z8 E st ops o a H =
  (let own : List Tag := match o.dst with | some d => [(st, d)] | none => []
  match o.op with
  | .load _ x => ⟨O3 (opd a x), [], false⟩
  | .store _ p _ => ⟨[], O3 (opd a p), false⟩
  | .alloc _ => ⟨[], own, false⟩
  | .box _ _ => ⟨[], own, false⟩
  | .buildSlice _ _ _ => ⟨[], own, false⟩
  | .makeSlice _ _ _ => ⟨[], own, false⟩
  | .makeMap _ _ => ⟨[], own, false⟩
  | .convert _ _ x => ⟨O3 (opd a x), own, false⟩
  | .lookup _ m _ _ => ⟨O3 (opd a m), [], false⟩
  | .mapUpdate _ m _ _ => ⟨[], O3 (opd a m), false⟩
  | .insert _ m _ _ => ⟨[], O3 (opd a m), false⟩
  | .call c =>
   let args := c.args.toList
   match c.callee with
   | .builtin .append => ⟨O3 (args[1]?.bind (opd a)), own ++ O3 (args[0]?.bind (opd a)), false⟩
   | .builtin .copy => ⟨O3 (args[1]?.bind (opd a)), O3 (args[0]?.bind (opd a)), false⟩
   | .builtin _ => ⟨args.flatMap fun x => O3 (opd a x), [], false⟩
   | .value f =>
    match opd a f with
    | some (.fn (.func g) first captured) =>
     let ts := (first ++ (args.filterMap (opd a)) ++ captured).flatMap (b9 H.o n6)
     match E.mode g with
     | .pure true => ⟨ts, [], false⟩
     | .ext true => ⟨ts, [], false⟩
     | .pure false => ⟨ts, ts, false⟩
     | .ext false => ⟨ts, ts, false⟩
     | .raw z => ⟨[], bx0 z g H.nx, true⟩
    | _ => ⟨[], [], true⟩
   | _ => ⟨[], [], true⟩
  | _ => FP.none_) := by
 unfold z8
 rw [if_pos hw]
 rfl
section
variable {E : Env} {cp : F9} {cr : q8} {st : Nat} {ops : Array Oper} {o : Oper} {a : n8} {H H' : AH} {v : AV}
theorem aZ6 (hw : y9 ops a o = some true) (hf : ∀ H2, z8 E st ops o a H2 = FP.none_) {x : Option AV} (he : ∀ H2, f9 E cp cr st o a H2 = x.map (·, H2)) (h : f9 E cp cr st o a H = some (v, H')) :
  ∃ D, Local (f9 E cp cr st o a) (z8 E st ops o a) H v H' D := by
 rw [he] at h
 replace h := am5 h
 obtain ⟨hx, rfl⟩ := h
 subst hx
 exact ⟨fun _ => none, { w := fun t x h => (by cases h), out := rfl, same := fun H2 _ => ⟨by rw [he]; rfl, by rw [hf, hf]⟩ }⟩
theorem O9 {d : Nat} (hd : o.dst = some d) (hf : ∀ H2, z8 E st ops o a H2 = ⟨[], [(st, d)], false⟩) {x : Option (AV × AObj)} (he : ∀ H2, f9 E cp cr st o a H2 = x.map fun p => (p.1, { H2 with o := upd H2.o (st, d) p.2 })) (h : f9 E cp cr st o a H = some (v, H')) :
  ∃ D, Local (f9 E cp cr st o a) (z8 E st ops o a) H v H' D := by
 rw [he] at h
 cases x with
 | none => cases h
 | some p =>
  simp only [Option.map_some] at h
  injection h with h
  injection h with h1 h2
  subst h1; subst h2
  refine ⟨upd (fun _ => none) (st, d) p.2, { w := fun t x ht => ?_, out := B5 .., same := fun H2 _ => ⟨by rw [he, Option.map_some, B5], by rw [hf, hf]⟩ }⟩
  rw [hf]
  unfold upd at ht
  split at ht
  ·rename_i e; simp [e]
  ·cases ht
end
end Go.Proofs.YtpmjpogcaglphaaDoor.A
namespace Go.Proofs.YtpmjpogcaglphaaDoor.A
open Go
section
variable {E : Env} {cp : F9} {cr : q8} {st : Nat} {ops : Array Oper} {o : Oper} {a : n8} {H H' : AH} {v : AV}
theorem am7 {a : n8} : ∀ {l : List Operand} {vs : List AV}, R8 a l = some vs → l.filterMap (opd a) = vs
 | [], vs, h => by simp only [R8] at h; injection h
 | x :: l, vs, h => by
  simp only [R8] at h
  split at h
  ·rename_i v vs' hv hvs
   injection h with h; subst h
   rw [List.filterMap_cons, hv, am7 hvs]
  ·cases h
theorem ay2 {a : n8} : ∀ {l : List Operand} {vs : List AV}, R8 a l = some vs → ∀ i : Nat, (l[i]?).bind (opd a) = vs[i]?
 | [], vs, h, i => by simp only [R8] at h; injection h with h; subst h; simp
 | x :: l, vs, h, i => by
  simp only [R8] at h
  split at h
  ·rename_i v vs' hv hvs
   injection h with h; subst h
   cases i with
   | zero => simp [hv]
   | succ i => simpa using ay2 hvs i
  ·cases h
theorem aL3 {P : Program} {t : TypeId} {p x : AV} {H' : AH} (h : H4 P t p x H = some H') : ∃ D, (∀ u y, D u = some y → u ∈ y8 p) ∧ H' = ad4 D H ∧ ∀ H2 : AH, Same (y8 p) H.o H2.o → H4 P t p x H2 = some (ad4 D H2) := by
 unfold H4 at h
 split at h
 ·rename_i k g off n hn
  split at h
  ·rename_i r hr
   split at h
   ·rename_i hc
    injection h with h; subst h
    refine ⟨upd (fun _ => none) k (.row { r with cs := r8 r.cs off x.cells }), fun u y hu => ?_, B5 .., fun H2 hs => ?_⟩
    ·unfold upd at hu
     split at hu
     ·rename_i e; simp [y8, e]
     ·cases hu
    ·simp only [H4, hn, K2 (g := g) (hs k (by simp [y8])), hr]
     rw [if_pos hc, ← B5]
     rfl
   ·cases h
  ·cases h
 ·cases h
theorem aE2 {P : Program} {tg : Tag} {t xt : TypeId} {s x : AV} {H' : AH} (h : w6 P tg t xt s x H = some (v, H')) :
  ∃ D, (∀ u y, D u = some y → u ∈ tg :: y8 s) ∧ H' = ad4 D H ∧ ∀ H2 : AH, Same (y8 x ++ (tg :: y8 s)) H.o H2.o → w6 P tg t xt s x H2 = some (v, ad4 D H2) := by
 unfold w6 at h
 split at h
 ·cases h
 ·rename_i e he
  split at h
  ·rename_i sz by_ z m new h1 h2 h3 hsrc
   split at h
   ·cases h
   ·rename_i hc
    split at h
    ·split at h
     ·rename_i h0
      injection h with h; injection h with g1 g2
      subst g1; subst g2
      refine ⟨fun _ => none, fun u y hu => (by cases hu), rfl, fun H2 hs => ?_⟩
      simp only [w6, he, h1, h2, h3, aa3 hs.left, hsrc, if_neg hc]
      simp only [h0, if_true]
      rfl
     ·rename_i h0
      split at h
      ·rename_i h4
       injection h with h; injection h with g1 g2
       subst g1; subst g2
       refine ⟨upd (fun _ => none) tg _, fun u y hu => ?_, B5 .., fun H2 hs => ?_⟩
       ·unfold upd at hu
        split at hu
        ·rename_i e; simp [e]
        ·cases hu
       ·simp only [w6, he, h1, h2, h3, aa3 hs.left, hsrc, if_neg hc]
        simp only [h0, if_false, h4, if_true]
        rw [← B5]
        rfl
      ·cases h
    ·rename_i k g n
     split at h
     ·rename_i r hr
      split at h
      ·rename_i h4
       injection h with h; injection h with g1 g2
       subst g1; subst g2
       refine ⟨upd (fun _ => none) k _, fun u y hu => ?_, B5 .., fun H2 hs => ?_⟩
       ·unfold upd at hu
        split at hu
        ·rename_i e; simp [y8, e]
        ·cases hu
       ·simp only [w6, he, h1, h2, h3, aa3 hs.left, hsrc, if_neg hc]
        simp only [K2 (g := g) (hs k (by simp [y8])), hr]
        rw [if_pos h4, ← B5]
        rfl
      ·cases h
     ·cases h
    ·cases h
  ·cases h
theorem aZ7 {P : Program} {t : TypeId} {d x : AV} {H' : AH} (h : P7 P t d x H = some (v, H')) :
  ∃ D, (∀ u y, D u = some y → u ∈ y8 d) ∧ H' = ad4 D H ∧ ∀ H2 : AH, Same (y8 x ++ y8 d) H.o H2.o → P7 P t d x H2 = some (v, ad4 D H2) := by
 unfold P7 at h
 split at h
 ·rename_i sz m new h1 hsrc
  split at h
  ·rename_i k g off n
   split at h
   ·rename_i r hr
    dsimp only at h
    split at h
    ·rename_i h4
     injection h with h; injection h with g1 g2
     subst g1; subst g2
     refine ⟨upd (fun _ => none) k _, fun u y hu => ?_, B5 .., fun H2 hs => ?_⟩
     ·unfold upd at hu
      split at hu
      ·rename_i e; simp [y8, e]
      ·cases hu
     ·unfold P7
      simp only [h1, aa3 hs.left, hsrc, K2 (g := g) (hs k (by simp [y8])), hr]
      rw [if_pos h4, ← B5]
      rfl
    ·cases h
   ·cases h
  ·split at h
   ·rename_i h4
    injection h with h; injection h with g1 g2
    subst g1; subst g2
    refine ⟨fun _ => none, fun u y hu => (by cases hu), rfl, fun H2 hs => ?_⟩
    unfold P7
    simp only [h1, aa3 hs.left, hsrc, h4, if_true]
    rfl
   ·cases h
  ·cases h
 ·cases h
theorem au4 {m : AV} {o o2 : Tag → Option AObj} (hs : Same (y8 m) o o2) : ax6 o2 m = ax6 o m := by
 cases m with
 | mp k => simp only [ax6, hs k (by simp [y8])]
 | _ => rfl
theorem aL4 {P : Program} {t : TypeId} {m k : AV} {ok : Bool} {H2 : AH} (hs : Same (y8 m) H.o H2.o) : H9 P t m k ok H2 = H9 P t m k ok H := by
 unfold H9
 rw [au4 hs]
theorem by7 {P : Program} {t : TypeId} {x : AV} {o o2 : Tag → Option AObj} (hs : Same (y8 x) o o2) : N6 P o2 t x = N6 P o t x := by
 have hm := au4 hs
 unfold N6
 split <;> first | rfl | (rw [hm])
theorem ag9 {P : Program} {t : TypeId} {m k x : AV} {H' : AH} (h : m6 P t m k x H = some H') : ∃ D, (∀ u y, D u = some y → u ∈ y8 m) ∧ H' = ad4 D H ∧ ∀ H2 : AH, Same (y8 m) H.o H2.o → m6 P t m k x H2 = some (ad4 D H2) := by
 unfold m6 at h
 split at h
 ·rename_i kt et tg hu
  split at h
  ·rename_i hok
   split at h
   ·rename_i es he
    split at h
    ·rename_i r hf
     injection h with h; subst h
     refine ⟨upd (fun _ => none) tg (.map (aC6 k x es)), fun u y hu => ?_, B5 .., fun H2 hs => ?_⟩
     ·unfold upd at hu
      split at hu
      ·rename_i e; simp [y8, e]
      ·cases hu
     ·have he2 : H2.o tg = some (.map es) := (hs tg (by simp [y8])).trans he
      simp only [m6, hu, hok, if_true, he2, hf]
      rw [← B5]
    ·cases h
   ·cases h
  ·cases h
 ·cases h
theorem aa4 {P : Program} {tg : Tag} {s t e : TypeId} {x : AV} {n : Nat} {cs : List AV} {bs : List UInt8} (h1 : P.underlying s = some (.slice e)) (h2 : P.underlying t = some .string) (he : P.underlying e = some (.int .u8)) (hc : z7 H.o x = some (n, cs))
  (hl : cs.length = n) (hb : R9 cs = some bs) : f6 P tg s t x H = some (.str bs, H) := by
 cases x with
 | str q => cases hc
 | _ => simp only [f6, h1, h2, he, hc, hl, if_true, hb]; rfl
theorem ay3 {P : Program} {tg : Tag} {s t : TypeId} {x : AV} {H' : AH} (h : f6 P tg s t x H = some (v, H')) :
  ∃ D, (∀ u y, D u = some y → u ∈ [tg]) ∧ H' = ad4 D H ∧ ∀ H2 : AH, Same (y8 x) H.o H2.o → f6 P tg s t x H2 = some (v, ad4 D H2) := by
 unfold f6 at h
 split at h
 ·rename_i k k' n h1 h2
  injection h with h; injection h with g1 g2
  subst g1; subst g2
  exact ⟨fun _ => none, fun u y hu => (by cases hu), rfl, fun H2 hs => by unfold f6; simp only [h1, h2]; rfl⟩
 ·rename_i n h1 h2
  injection h with h; injection h with g1 g2
  subst g1; subst g2
  exact ⟨fun _ => none, fun u y hu => (by cases hu), rfl, fun H2 hs => by unfold f6; simp only [h1, h2]; rfl⟩
 ·rename_i e sx h1 h2
  split at h
  ·rename_i he
   injection h with h; injection h with g1 g2
   subst g1; subst g2
   refine ⟨upd (fun _ => none) tg _, fun u y hu => ?_, B5 .., fun H2 hs => ?_⟩
   ·unfold upd at hu
    split at hu
    ·rename_i e; simp [e]
    ·cases hu
   ·unfold f6
    simp only [h1, h2, he]
    rw [← B5]
    rfl
  ·cases h
 ·rename_i e h1 h2 hx
  split at h
  ·rename_i he
   split at h
   ·rename_i n cs hcs
    split at h
    ·rename_i hl
     cases hb : R9 cs with
     | none => rw [hb] at h; cases h
     | some bs =>
      rw [hb] at h
      injection h with h; injection h with g1 g2
      subst g1; subst g2
      refine ⟨fun _ => none, fun u y hu => (by cases hu), rfl, fun H2 hs => ?_⟩
      have hc2 := au3 hs
      rw [hcs] at hc2
      exact aa4 h1 h2 he hc2 hl hb
    ·cases h
   ·cases h
  ·cases h
 ·cases h
theorem aZ8 {sc : Bool} {as_ : List AV} {r : AV} (h : B2 sc as_ r H = some (v, H')) : ∃ D, (∀ u y, D u = some y → sc = false ∧ u ∈ as_.flatMap (b9 H.o n6)) ∧ H' = ad4 D H ∧ ∀ H2 : AH, Same (as_.flatMap (b9 H.o n6)) H.o H2.o → B2 sc as_ r H2 = some (v, ad4 D H2) := by
 unfold B2 at h
 split at h
 ·split at h
  ·rename_i hf
   injection h with h; injection h with g1 g2
   subst g1; subst g2
   exact ⟨fun _ => none, fun u y hu => (by cases hu), rfl, fun H2 hs => by simp only [B2, hf, if_true]; rfl⟩
  ·cases h
 ·injection h with h; injection h with g1 g2
  subst g1; subst g2
  have hseal : ∀ o : Tag → Option AObj, Same (as_.flatMap (b9 H.o n6)) H.o o → C9 (as_.flatMap (b9 H.o n6)) o = fun t => match (if (as_.flatMap (b9 H.o n6)).contains t then (match H.o t with | some (.row r) => some (AObj.row { r with ro := true }) | _ => none) else none) with | some x => some x | none => o t := fun o ho => by
   funext t
   unfold C9
   by_cases hc : (as_.flatMap (b9 H.o n6)).contains t = true
   ·rw [if_pos hc, ← ho t (by simpa using hc)]
    cases hr : o t with
    | none => rfl
    | some x =>
     cases x with
     | row r => simp only [hc, if_true]
     | map es => rfl
   ·rw [if_neg hc]
    cases hr : o t with
    | none => rfl
    | some x =>
     cases x with
     | row r => simp only [hc, if_false]; rfl
     | map es => rfl
  refine ⟨fun t => if (as_.flatMap (b9 H.o n6)).contains t then (match H.o t with | some (.row r) => some (AObj.row { r with ro := true }) | _ => none) else none, fun u y hu => ⟨rfl, ?_⟩, ?_, fun H2 hs => ?_⟩
  ·dsimp only at hu
   split at hu
   ·rename_i hc; simpa using hc
   ·cases hu
  ·simp only [ad4, AH.mk.injEq, and_true]
   exact hseal H.o (fun _ _ => rfl)
  ·have := (ae6 n6 as_ hs).1
   simp only [B2, this, ad4, Option.some.injEq, Prod.mk.injEq, AH.mk.injEq, and_true, true_and]
   exact hseal H2.o hs
theorem aE3 (hw : y9 ops a o = some true) (hall : (z8 E st ops o a H).all = false) (h : f9 E cp cr st o a H = some (v, H')) : ∃ D, Local (f9 E cp cr st o a) (z8 E st ops o a) H v H' D := by
 have flat : ∀ {x : Option AV}, (∀ H2, z8 E st ops o a H2 = FP.none_) → (∀ H2, f9 E cp cr st o a H2 = x.map (·, H2)) → ∃ D, Local (f9 E cp cr st o a) (z8 E st ops o a) H v H' D := fun hf he => aZ6 hw hf he h
 have hft := aL2 (E := E) (st := st) hw
 have h' := h
 unfold f9 at h'
 split at h'
 ·rename_i x ho
  exact flat (x := opd a x) (fun H2 => by rw [hft]; simp only [ho]) (fun H2 => by simp only [f9, ho])
 ·rename_i x ho
  exact flat (x := opd a x) (fun H2 => by rw [hft]; simp only [ho]) (fun H2 => by simp only [f9, ho])
 ·rename_i c x y ho
  refine flat (x := match opd a c with | some (.bool true) => opd a x | some (.bool false) => opd a y | _ => none) (fun H2 => by rw [hft]; simp only [ho]) (fun H2 => ?_)
  simp only [f9, ho]
  rcases opd a c with _ | v
  ·rfl
  ·cases v with
   | bool b => cases b <;> rfl
   | _ => rfl
 ·rename_i e ho
  split at h'
  ·rename_i d z hd hz
   exact O9 hd (fun H2 => by rw [hft]; simp only [ho, hd]) (x := some (.ptr (st, d) (st, d) 0, .row { elem := e, sz := 1, gen := (st, d), ro := false, plain := true, cs := z })) (fun H2 => by simp only [f9, ho, hd, hz, Option.map_some]; rfl) h
  ·cases h'
 ·rename_i e x ho
  split at h'
  ·rename_i d z hd hz
   split at h'
   ·rename_i hc
    exact O9 hd (fun H2 => by rw [hft]; simp only [ho, hd]) (x := some (.ptr (st, d) (st, d) 0, .row { elem := e, sz := 1, gen := (st, d), ro := false, plain := true, cs := z.cells })) (fun H2 => by simp only [f9, ho, hd, hz, hc, if_true, Option.map_some]; rfl) h
   ·cases h'
  ·cases h'
 ·rename_i t parts ho
  refine flat (x := (A4 a parts.toList).bind fun ps => D3 E.P t ps) (fun H2 => by rw [hft]; simp only [ho]) (fun H2 => ?_)
  simp only [f9, ho, Option.map_bind]
  rfl
 ·rename_i t len parts ho
  replace h' := A0 h'
  obtain ⟨d, hd, h'⟩ := h'
  refine O9 hd (fun H2 => by rw [hft]; simp only [ho, hd]) (x := (A4 a parts.toList).bind fun ps => (E7 E.P t).bind fun e => match l9 E.P e, F8 E.P e with
   | some sz, some z => if len * sz ≤ 16777216 ∧ z.length = sz ∧ 0 < sz then (y7 (fun i => some (i * sz, sz)) (rep z len) ps).map fun cs => (.ref (st, d) (st, d) 0 len, .row { elem := e, sz, gen := (st, d), ro := false, plain := true, cs }) else none
   | _, _ => none) (fun H2 => ?_) h
  simp only [f9, ho, hd, ad7]
  cases A4 a parts.toList with
  | none => rfl
  | some ps =>
   simp only [Option.bind_some, l7]
   cases E7 E.P t with
   | none => rfl
   | some e =>
    simp only [Option.bind_some]
    cases l9 E.P e with
    | none => rfl
    | some sz =>
     cases F8 E.P e with
     | none => rfl
     | some z =>
      dsimp only
      split
      ·cases y7 (fun i => some (i * sz, sz)) (rep z len) ps with
       | none => rfl
       | some cs => rfl
      ·rfl
 ·rename_i t x ho
  replace h' := d5 h'
  obtain ⟨p, hp, h'⟩ := h'
  replace h' := am5 h'
  obtain ⟨hv, rfl⟩ := h'
  have hf : ∀ H2, z8 E st ops o a H2 = ⟨y8 p, [], false⟩ := fun H2 => by rw [hft]; simp only [ho, hp, O3]
  refine ⟨fun _ => none, { w := fun t x h => (by cases h), out := rfl, same := fun H2 hs => ⟨?_, by rw [hf, hf]⟩ }⟩
  simp only [f9, ho, hp, Option.bind_some]
  rw [bi2 (by simpa [hf] using hs), hv]
  rfl
 ·rename_i t p x ho
  replace h' := d5 h'
  obtain ⟨pv, hp, h'⟩ := h'
  replace h' := d5 h'
  obtain ⟨xv, hx, h'⟩ := h'
  have hf : ∀ H2, z8 E st ops o a H2 = ⟨[], y8 pv, false⟩ := fun H2 => by rw [hft]; simp only [ho, hp, O3]
  cases hs0 : H4 E.P t pv xv H with
  | none => rw [hs0] at h'; cases h'
  | some H1 =>
   rw [hs0] at h'
   simp only [Option.map_some] at h'
   injection h' with h'
   injection h' with g1 g2
   subst g1; subst g2
   obtain ⟨D, d1, d2, d3⟩ := aL3 hs0
   refine ⟨D, { w := fun u y hu => (by rw [hf]; exact d1 u y hu), out := d2, same := fun H2 hs => ⟨?_, by rw [hf, hf]⟩ }⟩
   simp only [f9, ho, hp, hx, Option.bind_some]
   rw [d3 H2 (by simpa [hf] using hs)]
   rfl
 ·rename_i x ho
  refine flat (x := match opd a x with
   | some (.ptr k g off) => some (.ptr k g off)
   | some (.fptr cs) => some (.fptr cs)
   | some (.fn (.func f) first captured) => some (.fn (.func f) first captured)
   | _ => none) (fun H2 => by rw [hft]; simp only [ho]) (fun H2 => ?_)
  simp only [f9, ho]
  rcases opd a x with _ | v
  ·rfl
  ·cases v with
   | fn f p q => cases f <;> rfl
   | _ => rfl
 ·rename_i op t x y _ ho
  refine flat (x := (opd a x).bind fun u => (opd a y).bind fun v => I1 E.P op t u v) (fun H2 => by rw [hft]; simp only [ho]) (fun H2 => ?_)
  simp only [f9, ho]
  cases opd a x with
  | none => rfl
  | some u => cases opd a y <;> rfl
 ·rename_i op t x ho
  refine flat (x := (opd a x).bind fun u => aUn op u) (fun H2 => by rw [hft]; simp only [ho]) (fun H2 => ?_)
  simp only [f9, ho, Option.map_bind]
  rfl
 ·rename_i s t x ho
  replace h' := A0 h'
  obtain ⟨d, hd, h'⟩ := h'
  replace h' := d5 h'
  obtain ⟨u, hu, h'⟩ := h'
  have hf : ∀ H2, z8 E st ops o a H2 = ⟨y8 u, [(st, d)], false⟩ := fun H2 => by rw [hft]; simp only [ho, hu, O3, hd]
  obtain ⟨D, d1, d2, d3⟩ := ay3 h'
  refine ⟨D, { w := fun u y hu => (by rw [hf]; exact d1 u y hu), out := d2, same := fun H2 hs => ⟨?_, by rw [hf, hf]⟩ }⟩
  simp only [f9, ho, hd, hu, ad7, Option.bind_some]
  exact d3 H2 (by rw [hf] at hs; exact hs.left)
 ·rename_i fn first captured ho
  refine flat (x := match R8 a first.toList, R8 a captured.toList with
   | some f, some c => some (.fn fn f c)
   | _, _ => none) (fun H2 => by rw [hft]; simp only [ho]) (fun H2 => ?_)
  simp only [f9, ho]
  cases R8 a first.toList with
  | none => rfl
  | some f => cases R8 a captured.toList <;> rfl
 ·rename_i ty ho
  split at h'
  ·rename_i d hd
   exact O9 hd (fun H2 => by rw [hft]; simp only [ho, hd]) (x := some (.mp (st, d), .map [])) (fun H2 => by simp only [f9, ho, hd, Option.map_some]) h
  ·cases h'
 ·rename_i t l c ho
  replace h' := A0 h'
  obtain ⟨d, hd, h'⟩ := h'
  refine O9 hd (fun H2 => by rw [hft]; simp only [ho, hd]) (x := (Z6 a l).bind fun l => (Z6 a c).bind fun c => (E7 E.P t).bind fun e => match l9 E.P e, ag3 E.P e, F8 E.P e with
   | some sz, some by_, some z => if 0 ≤ l ∧ l ≤ c ∧ c * by_ ≤ 140737488355328 ∧ c ≤ 140737488355328 ∧ z.length = sz ∧ 0 < sz then some (.ref (st, d) (st, d) 0 l.toNat, .row { elem := e, sz, gen := (st, d), ro := false, plain := true, cs := rep z l.toNat }) else none
   | _, _, _ => none) (fun H2 => ?_) h
  simp only [f9, ho, hd, ad7]
  cases Z6 a l with
  | none => rfl
  | some l =>
   cases Z6 a c with
   | none => rfl
   | some c =>
    simp only [Option.bind_some, q7]
    cases E7 E.P t with
    | none => rfl
    | some e =>
     simp only [Option.bind_some]
     cases l9 E.P e with
     | none => rfl
     | some sz =>
      cases ag3 E.P e with
      | none => rfl
      | some by_ =>
       cases F8 E.P e with
       | none => rfl
       | some z =>
        dsimp only
        split <;> rfl
 ·rename_i t x lo hi ho
  refine flat (x := (opd a x).bind fun v => (aC2 a lo).bind fun l => (aC2 a hi).bind fun h => R7 E.P t v l h) (fun H2 => by rw [hft]; simp only [ho]) (fun H2 => ?_)
  simp only [f9, ho]
  cases opd a x with
  | none => rfl
  | some u =>
   cases aC2 a lo with
   | none => rfl
   | some l => cases aC2 a hi <;> rfl
 ·rename_i t x f ho
  refine flat (x := match opd a x, E9 E.P t f with
   | some (.ptr k g off), some (o', ft) => if (l9 E.P ft).getD 0 = 0 then none else some (.ptr k g (off + o'))
   | some (.fptr cs), some (o', ft) => if (l9 E.P ft).getD 0 = 0 then none else some (.fptr (cs.drop o'))
   | _, _ => none) (fun H2 => by rw [hft]; simp only [ho]) (fun H2 => ?_)
  simp only [f9, ho]
  rcases opd a x with _ | v
  ·rfl
  ·rcases E9 E.P t f with _ | ⟨o', ft⟩
   ·cases v <;> rfl
   ·cases v with
    | ptr k g off => dsimp only; split <;> rfl
    | fptr cs => dsimp only; split <;> rfl
    | _ => rfl
 ·rename_i t x f ho
  refine flat (x := match opd a x, E9 E.P t f with
   | some (.agg cs), some (o', ft) => O4 E.P ft (cs.drop o')
   | _, _ => none) (fun H2 => by rw [hft]; simp only [ho]) (fun H2 => ?_)
  simp only [f9, ho]
  rcases opd a x with _ | v
  ·rfl
  ·rcases E9 E.P t f with _ | ⟨o', ft⟩
   ·cases v <;> rfl
   ·cases v <;> rfl
 ·rename_i t x i ho
  refine flat (x := (opd a x).bind fun v => (Z6 a i).bind fun j => j6 E.P t v j) (fun H2 => by rw [hft]; simp only [ho]) (fun H2 => ?_)
  simp only [f9, ho]
  cases opd a x with
  | none => rfl
  | some u => cases Z6 a i <;> rfl
 ·rename_i t x i ho
  refine flat (x := (opd a x).bind fun v => (Z6 a i).bind fun j => R1 E.P t v j) (fun H2 => by rw [hft]; simp only [ho]) (fun H2 => ?_)
  simp only [f9, ho]
  cases opd a x with
  | none => rfl
  | some u => cases Z6 a i <;> rfl
 ·rename_i t m k ok ho
  replace h' := d5 h'
  obtain ⟨mv, hm, h'⟩ := h'
  replace h' := d5 h'
  obtain ⟨kv, hk, h'⟩ := h'
  replace h' := am5 h'
  obtain ⟨hv, rfl⟩ := h'
  have hf : ∀ H2, z8 E st ops o a H2 = ⟨y8 mv, [], false⟩ := fun H2 => by rw [hft]; simp only [ho, hm, O3]
  refine ⟨fun _ => none, { w := fun t x h => (by cases h), out := rfl, same := fun H2 hs => ⟨?_, by rw [hf, hf]⟩ }⟩
  simp only [f9, ho, hm, hk, Option.bind_some]
  rw [aL4 (by simpa [hf] using hs), hv]
  rfl
 ·rename_i t m k x ho
  replace h' := d5 h'
  obtain ⟨mv, hm, h'⟩ := h'
  replace h' := d5 h'
  obtain ⟨kv, hk, h'⟩ := h'
  replace h' := d5 h'
  obtain ⟨xv, hx, h'⟩ := h'
  have hf : ∀ H2, z8 E st ops o a H2 = ⟨[], y8 mv, false⟩ := fun H2 => by rw [hft]; simp only [ho, hm, O3]
  cases hs0 : m6 E.P t mv kv xv H with
  | none => rw [hs0] at h'; cases h'
  | some H1 =>
   rw [hs0] at h'
   simp only [Option.map_some] at h'
   injection h' with h'
   injection h' with g1 g2
   subst g1; subst g2
   obtain ⟨D, d1, d2, d3⟩ := ag9 hs0
   refine ⟨D, { w := fun u y hu => (by rw [hf]; exact d1 u y hu), out := d2, same := fun H2 hs => ⟨?_, by rw [hf, hf]⟩ }⟩
   simp only [f9, ho, hm, hk, hx, Option.bind_some]
   rw [d3 H2 (by simpa [hf] using hs)]
   rfl
 ·rename_i t m k x ho
  replace h' := d5 h'
  obtain ⟨mv, hm, h'⟩ := h'
  replace h' := d5 h'
  obtain ⟨kv, hk, h'⟩ := h'
  replace h' := d5 h'
  obtain ⟨xv, hx, h'⟩ := h'
  have hf : ∀ H2, z8 E st ops o a H2 = ⟨[], y8 mv, false⟩ := fun H2 => by rw [hft]; simp only [ho, hm, O3]
  cases hs0 : m6 E.P t mv kv xv H with
  | none => rw [hs0] at h'; cases h'
  | some H1 =>
   rw [hs0] at h'
   simp only [Option.map_some] at h'
   injection h' with h'
   injection h' with g1 g2
   subst g1; subst g2
   obtain ⟨D, d1, d2, d3⟩ := ag9 hs0
   refine ⟨D, { w := fun u y hu => (by rw [hf]; exact d1 u y hu), out := d2, same := fun H2 hs => ⟨?_, by rw [hf, hf]⟩ }⟩
   simp only [f9, ho, hm, hk, hx, Option.bind_some]
   rw [d3 H2 (by simpa [hf] using hs)]
   rfl
 ·rename_i t i ho
  refine flat (x := match opd a t with
   | some (.tup vs) => vs[i]?
   | _ => none) (fun H2 => by rw [hft]; simp only [ho]) (fun H2 => ?_)
  simp only [f9, ho]
  rcases opd a t with _ | v
  ·rfl
  ·cases v <;> rfl
 ·rename_i cl ho
  replace h' := d5 h'
  obtain ⟨args, hargs, h'⟩ := h'
  split at h'
  ·rename_i f hcal
   replace h' := d5 h'
   obtain ⟨fv, hfv, h'⟩ := h'
   unfold ai5 at h'
   split at h'
   ·rename_i g first captured
    dsimp only at h'
    have hf : ∀ H2, z8 E st ops o a H2 = (match E.mode g with
     | .pure true => ⟨(first ++ args ++ captured).flatMap (b9 H2.o n6), [], false⟩
     | .ext true => ⟨(first ++ args ++ captured).flatMap (b9 H2.o n6), [], false⟩
     | .pure false => ⟨(first ++ args ++ captured).flatMap (b9 H2.o n6), (first ++ args ++ captured).flatMap (b9 H2.o n6), false⟩
     | .ext false => ⟨(first ++ args ++ captured).flatMap (b9 H2.o n6), (first ++ args ++ captured).flatMap (b9 H2.o n6), false⟩
     | .raw z => ⟨[], bx0 z g H2.nx, true⟩) := fun H2 => by
      rw [hft]
      simp only [ho, hcal, hfv, am7 hargs]
      all_goals
       cases E.mode g with
       | pure b => cases b <;> rfl
       | ext b => cases b <;> rfl
       | raw b => rfl
    have pure : ∀ {cp' : F9} {sc : Bool}, (∀ H2, z8 E st ops o a H2 = ⟨(first ++ args ++ captured).flatMap (b9 H2.o n6), if sc then [] else (first ++ args ++ captured).flatMap (b9 H2.o n6), false⟩) →
      (∀ H2 : AH, f9 E cp cr st o a H2 = (cp' g ((first ++ args ++ captured).map (view H2.o n6))).bind fun r => B2 sc (first ++ args ++ captured) r H2) → ∃ D, Local (f9 E cp cr st o a) (z8 E st ops o a) H v H' D := fun {cp' sc} hf he => by
     rw [he] at h
     replace h := d5 h
     obtain ⟨r, hr, h⟩ := h
     obtain ⟨D, d1, d2, d3⟩ := aZ8 h
     refine ⟨D, { w := fun u y hu => ?_, out := d2, same := fun H2 hs => ?_ }⟩
     ·obtain ⟨e, hm⟩ := d1 u y hu
      rw [hf, e]
      exact hm
     ·rw [hf] at hs
      obtain ⟨j1, j2⟩ := ae6 n6 _ hs.left
      refine ⟨?_, ?_⟩
      ·rw [he, j2, hr]
       exact d3 H2 hs.left
      ·rw [hf, hf, j1]
    split at h'
    ·rename_i sc hm
     refine pure (cp' := cp) (sc := sc) (fun H2 => ?_) (fun H2 => ?_)
     ·rw [hf, hm]
      cases sc <;> rfl
     ·simp only [f9, ho, hargs, hcal, hfv, Option.bind_some, ai5, hm]
    ·rename_i sc hm
     refine pure (cp' := E.ext) (sc := sc) (fun H2 => ?_) (fun H2 => ?_)
     ·rw [hf, hm]
      cases sc <;> rfl
     ·simp only [f9, ho, hargs, hcal, hfv, Option.bind_some, ai5, hm]
    ·rename_i frz hm
     rw [hf, hm] at hall
     cases hall
   ·cases h'
  ·rename_i hcal
   split at h'
   ·rename_i x
    replace h' := am5 h'
    obtain ⟨hv, rfl⟩ := h'
    have hf : ∀ H2 H3, z8 E st ops o a H2 = z8 E st ops o a H3 := fun H2 H3 => by rw [hft, hft]; simp only [ho, hcal]
    have hx0 := ay2 hargs 0
    have hf2 : ∀ H2, z8 E st ops o a H2 = ⟨y8 x, [], false⟩ := fun H2 => by
     rw [hft]
     simp only [ho, hcal]
     cases hca : cl.args.toList with
     | nil => rw [hca] at hargs; cases hargs
     | cons y l =>
      rw [hca] at hargs hx0
      have hxl : l = [] := by
       cases l with
       | nil => rfl
       | cons z l =>
        simp only [R8] at hargs
        split at hargs
        ·rename_i v1 v2 e1 e2
         split at e2
         ·injection e2 with e2; rw [← e2] at hargs; simp at hargs
         ·cases e2
        ·cases hargs
      subst hxl
      simp at hx0
      simp [hx0, O3]
    refine ⟨fun _ => none, { w := fun t x h => (by cases h), out := rfl, same := fun H2 hs => ⟨?_, hf _ _⟩ }⟩
    rw [hf2] at hs
    simp only [f9, ho, hargs, hcal, Option.bind_some]
    rw [by7 (by simpa using hs), hv]
    rfl
   ·cases h'
  ·rename_i hcal
   split at h'
   ·rename_i s x
    split at h'
    ·rename_i h2
     replace h' := A0 h'
     obtain ⟨d, hd, h'⟩ := h'
     have hf : ∀ H2, z8 E st ops o a H2 = ⟨y8 x, (st, d) :: y8 s, false⟩ := fun H2 => by
      rw [hft]
      simp only [ho, hcal, ay2 hargs, hd]
      rfl
     obtain ⟨D, d1, d2, d3⟩ := aE2 h'
     refine ⟨D, { w := fun u y hu => (by rw [hf]; exact d1 u y hu), out := d2, same := fun H2 hs => ⟨?_, by rw [hf, hf]⟩ }⟩
     simp only [f9, ho, hargs, hcal, Option.bind_some, h2, if_true, hd, ad7]
     exact d3 H2 (by rw [hf] at hs; exact hs)
    ·cases h'
   ·cases h'
  ·rename_i hcal
   split at h'
   ·rename_i s x
    generalize hg : cl.argTypes.getD 0 0 = ty0 at h'
    split at h'
    ·rename_i h2
     have hf : ∀ H2, z8 E st ops o a H2 = ⟨y8 x, y8 s, false⟩ := fun H2 => by
      rw [hft]
      simp only [ho, hcal, ay2 hargs]
      rfl
     obtain ⟨D, d1, d2, d3⟩ := aZ7 h'
     refine ⟨D, { w := fun u y hu => (by rw [hf]; exact d1 u y hu), out := d2, same := fun H2 hs => ⟨?_, by rw [hf, hf]⟩ }⟩
     simp only [f9, ho, hargs, hcal, Option.bind_some, hg]
     rw [if_pos h2]
     exact d3 H2 (by rw [hf] at hs; exact hs)
    ·cases h'
   ·cases h'
  ·rename_i hcal
   replace h' := am5 h'
   obtain ⟨hv, rfl⟩ := h'
   have hf : ∀ H2 H3, z8 E st ops o a H2 = z8 E st ops o a H3 := fun H2 H3 => by rw [hft, hft]; simp only [ho, hcal]
   exact ⟨fun _ => none, { w := fun t x h => (by cases h), out := rfl, same := fun H2 hs => ⟨by simp only [f9, ho, hargs, hcal, Option.bind_some, hv]; rfl, hf _ _⟩ }⟩
  ·rename_i hcal
   replace h' := am5 h'
   obtain ⟨hv, rfl⟩ := h'
   have hf : ∀ H2 H3, z8 E st ops o a H2 = z8 E st ops o a H3 := fun H2 H3 => by rw [hft, hft]; simp only [ho, hcal]
   exact ⟨fun _ => none, { w := fun t x h => (by cases h), out := rfl, same := fun H2 hs => ⟨by simp only [f9, ho, hargs, hcal, Option.bind_some, hv]; rfl, hf _ _⟩ }⟩
  ·cases h'
 ·cases h'
end
end Go.Proofs.YtpmjpogcaglphaaDoor.A
namespace Go.Proofs.YtpmjpogcaglphaaDoor.A
open Go
section
variable {E : Env} {cp : F9} {cr : q8} {st : Nat} {ops : Array Oper}
def O0 (E : Env) (cp : F9) (cr : q8) (st : Nat) (ops : Array Oper) (o : Oper) (a : n8) (H : AH) : Option (AV × AH) :=
 match y9 ops a o with
 | some true => f9 E cp cr st o a H
 | some false => some (noV, H)
 | none => none
theorem aS0 (o : Oper) (a : n8) (H : AH) : P8 E cp cr st ops o a H = (O0 E cp cr st ops o a H).map fun p => (J7 a o.dst p.1, p.2) := by
 unfold P8 O0
 cases y9 ops a o with
 | none => rfl
 | some b => cases b <;> rfl
theorem am8 {o : Oper} {a : n8} {H : AH} {d : Option Nat} {v : AV} (h : ∀ t, d = some t → t ∉ o.looksAt ops) : O0 E cp cr st ops o (J7 a d v) H = O0 E cp cr st ops o a H ∧ z8 E st ops o (J7 a d v) H = z8 E st ops o a H := by
 refine ⟨?_, aZ5 (ag8 h) (aE0 h)⟩
 unfold O0
 rw [ag8 h, aD9 (aE0 h)]
theorem Q3 {o : Oper} {a : n8} {H H' : AH} {v : AV} (hall : (z8 E st ops o a H).all = false) (h : O0 E cp cr st ops o a H = some (v, H')) : ∃ D, Local (O0 E cp cr st ops o a) (z8 E st ops o a) H v H' D := by
 unfold O0 at h
 split at h
 ·rename_i hw
  obtain ⟨D, hD⟩ := aE3 hw hall h
  refine ⟨D, { w := hD.w, out := hD.out, same := fun H2 hs => ?_ }⟩
  have := hD.same H2 hs
  refine ⟨?_, this.2⟩
  unfold O0
  rw [hw]
  exact this.1
 ·rename_i hw
  injection h with h
  injection h with h1 h2
  subst h1; subst h2
  have hf : ∀ H2, z8 E st ops o a H2 = FP.none_ := fun H2 => by
   unfold z8
   rw [if_neg (by rw [hw]; simp)]
  refine ⟨fun _ => none, { w := fun t x h => (by cases h), out := rfl, same := fun H2 _ => ⟨?_, by rw [hf, hf]⟩ }⟩
  unfold O0
  rw [hw]
  rfl
 ·cases h
theorem bi3 (a : n8) {x y : Option Nat} (v u : AV) (h : ∀ d, x = some d → y ≠ some d) : J7 (J7 a x v) y u = J7 (J7 a y u) x v := by
 cases x with
 | none => rfl
 | some d =>
  cases y with
  | none => rfl
  | some e =>
   have hne : d ≠ e := fun q => h d rfl (by rw [q])
   funext t
   simp only [J7, A.put]
   by_cases h1 : t = d
   ·have h2 : ¬ t = e := fun q => hne (h1.symm.trans q)
    simp only [h1, if_true, if_neg hne]
   ·simp only [if_neg h1]
theorem bi4 {D D' : Tag → Option AObj} (h : ∀ t x y, D t = some x → D' t = some y → False) (H : AH) : ad4 D (ad4 D' H) = ad4 D' (ad4 D H) := by
 simp only [ad4, AH.mk.injEq, and_true]
 funext t
 cases h1 : D t with
 | none => rfl
 | some x =>
  cases h2 : D' t with
  | none => rfl
  | some y => exact (h t x y h1 h2).elim
def Up (cr : q8) : Prop := ∀ g as_ H v H', cr g as_ H = some (v, H') → H.nx ≤ H'.nx ∧ (aC7 g = true → ∀ t : Tag, t.1 < H.nx → H'.o t = H.o t)
theorem aE4 (hU : Up cr) {o : Oper} {a : n8} {H H' : AH} {v : AV} (ha : (z8 E st ops o a H).all = true) (h : O0 E cp cr st ops o a H = some (v, H')) : ∀ t b : Tag, b ∈ (z8 E st ops o a H).w → t.1 < b.1 → H'.o t = H.o t := by
 unfold O0 at h
 split at h
 ·rename_i hw
  rw [aL2 hw] at ha ⊢
  cases ho : o.op <;> simp only [ho] at ha ⊢ <;> try (cases ha; done)
  rename_i c
  cases hc : c.callee with
  | builtin b => rw [hc] at ha; cases b <;> cases ha
  | invoke => intro t b hb; cases hb
  | value f =>
   simp only [hc] at ha ⊢
   cases hf : opd a f with
   | none => intro t b hb; cases hb
   | some x =>
    simp only [hf] at ha ⊢
    split
    ·rename_i g first captured e
     injection e with e
     subst e
     dsimp only at ha ⊢
     cases hm : E.mode g with
     | pure b => rw [hm] at ha; cases b <;> cases ha
     | ext b => rw [hm] at ha; cases b <;> cases ha
     | raw z =>
      intro t b hb htb
      dsimp only at hb
      unfold bx0 at hb
      split at hb
      ·cases hb
      ·rename_i hz
       split at hb
       ·rename_i hk
        have hz' : z = false := by simpa using hz
        subst hz'
        rw [List.mem_singleton.1 hb] at htb
        unfold f9 at h
        simp only [ho, hc, hf] at h
        obtain ⟨as_, _, h⟩ := d5 h
        simp only [Option.bind_some, ai5, hm] at h
        cases hs : cr g (first ++ as_ ++ captured) H with
        | none => rw [hs] at h; cases h
        | some p =>
         rw [hs] at h
         simp only [Option.map_some] at h
         injection h with h
         have e : p.2 = H' := by
          have := congrArg Prod.snd h
          exact this
         rw [← e]
         exact (hU _ _ _ _ _ hs).2 hk t htb
       ·cases hb
    ·intro t b hb; cases hb
 ·rename_i hw
  unfold z8 at ha
  rw [if_neg (by rw [hw]; simp)] at ha
  cases ha
 ·cases h
theorem aZ9 {x y : FP} (hx : x.all = false) (hy : y.all = false) (h : aC3 x y = true) : (∀ t, t ∈ x.w → t ∉ y.r ∧ t ∉ y.w) ∧ (∀ t, t ∈ y.w → t ∉ x.r) := by
 unfold aC3 at h
 rw [hx, hy] at h
 simp only [Bool.false_eq_true, if_false, Bool.and_eq_true, List.all_eq_true, Bool.not_eq_true', List.contains_eq_mem, decide_eq_false_iff_not] at h
 exact ⟨fun t ht => h.1 t ht, fun t ht => h.2 t ht⟩
theorem swap (hU : Up cr) {x y : Oper} {a : n8} {H H1 H2 : AH} {vx vy : AV} (hap : x.apart ops y = true) (hx : O0 E cp cr st ops x a H = some (vx, H1)) (hy : O0 E cp cr st ops y (J7 a x.dst vx) H1 = some (vy, H2))
  (hd : aC3 (z8 E st ops x a H) (z8 E st ops y (J7 a x.dst vx) H1) = true) :
  ∃ H1', O0 E cp cr st ops y a H = some (vy, H1') ∧ z8 E st ops y a H = z8 E st ops y (J7 a x.dst vx) H1 ∧ O0 E cp cr st ops x (J7 a y.dst vy) H1' = some (vx, H2) ∧ z8 E st ops x (J7 a y.dst vy) H1' = z8 E st ops x a H ∧
   J7 (J7 a y.dst vy) x.dst vx = J7 (J7 a x.dst vx) y.dst vy := by
 obtain ⟨p1, p2, p3⟩ := Oper.apart_spec hap
 have cy : ∀ H, _ := fun H => am8 (E := E) (cp := cp) (cr := cr) (st := st) (ops := ops) (o := y) (a := a) (H := H) (d := x.dst) (v := vx) p1
 have cx : ∀ H, _ := fun H => am8 (E := E) (cp := cp) (cr := cr) (st := st) (ops := ops) (o := x) (a := a) (H := H) (d := y.dst) (v := vy) p3
 rw [(cy H1).2] at hd ⊢
 rw [(cy H1).1] at hy
 have hput : J7 (J7 a y.dst vy) x.dst vx = J7 (J7 a x.dst vx) y.dst vy := (bi3 a vx vy p2).symm
 by_cases ax : (z8 E st ops x a H).all = true
 ·-- x meets everything: y touches nothing
  have hyy : (z8 E st ops y a H1).all = false ∧ (z8 E st ops y a H1).w = [] ∧ ∀ t ∈ (z8 E st ops y a H1).r, ∃ b ∈ (z8 E st ops x a H).w, t.1 < b.1 := by
   unfold aC3 at hd
   rw [if_pos ax] at hd
   simp only [Bool.and_eq_true, Bool.not_eq_true', List.isEmpty_iff, List.all_eq_true, List.any_eq_true, below, decide_eq_true_eq] at hd
   exact hd
  obtain ⟨Dy, ly⟩ := Q3 hyy.1 hy
  have hD : Dy = fun _ => none := by
   funext t
   cases ht : Dy t with
   | none => rfl
   | some z => have := ly.w t z ht; rw [hyy.2.1] at this; cases this
  subst hD
  obtain ⟨s1, s2⟩ := ly.same H (by
   rw [hyy.2.1, List.append_nil]
   intro t ht
   obtain ⟨b, hb, hlt⟩ := hyy.2.2 t ht
   exact (aE4 hU ax hx t b hb hlt).symm)
  refine ⟨H, s1, s2, ?_, (cx H).2, hput⟩
  rw [(cx H).1, hx, ly.out]
  rfl
 ·have ax' : (z8 E st ops x a H).all = false := by simpa using ax
  obtain ⟨Dx, lx⟩ := Q3 ax' hx
  by_cases ay : (z8 E st ops y a H1).all = true
  ·have hxx : (z8 E st ops x a H).w = [] ∧ ∀ t ∈ (z8 E st ops x a H).r, ∃ b ∈ (z8 E st ops y a H1).w, t.1 < b.1 := by
    unfold aC3 at hd
    rw [if_neg ax, if_pos ay] at hd
    simp only [Bool.and_eq_true, List.isEmpty_iff, List.all_eq_true, List.any_eq_true, below, decide_eq_true_eq] at hd
    exact hd
   have hD : Dx = fun _ => none := by
    funext t
    cases ht : Dx t with
    | none => rfl
    | some z => have := lx.w t z ht; rw [hxx.1] at this; cases this
   subst hD
   have e1 : H1 = H := lx.out
   subst e1
   obtain ⟨s1, s2⟩ := lx.same H2 (by
    rw [hxx.1, List.append_nil]
    intro t ht
    obtain ⟨b, hb, hlt⟩ := hxx.2 t ht
    exact aE4 hU ay hy t b hb hlt)
   refine ⟨H2, hy, rfl, ?_, ?_, hput⟩
   ·rw [(cx H2).1, s1]
    rfl
   ·rw [(cx H2).2, s2]
  ·have ay' : (z8 E st ops y a H1).all = false := by simpa using ay
   obtain ⟨Dy, ly⟩ := Q3 ay' hy
   obtain ⟨q1, q2⟩ := aZ9 ax' ay' hd
   have sy : Same ((z8 E st ops y a H1).r ++ (z8 E st ops y a H1).w) H1.o H.o := fun t ht => by
    rw [lx.out]
    simp only [ad4]
    cases hD : Dx t with
    | none => rfl
    | some z =>
     obtain ⟨n1, n2⟩ := q1 t (lx.w t z hD)
     rcases List.mem_append.1 ht with h | h
     ·exact absurd h n1
     ·exact absurd h n2
   obtain ⟨s1, s2⟩ := ly.same H sy
   have sx : Same ((z8 E st ops x a H).r ++ (z8 E st ops x a H).w) H.o (ad4 Dy H).o := fun t ht => by
    simp only [ad4]
    cases hD : Dy t with
    | none => rfl
    | some z =>
     have hm := ly.w t z hD
     rcases List.mem_append.1 ht with h | h
     ·exact absurd h (q2 t hm)
     ·exact absurd hm (q1 t h).2
   obtain ⟨t1, t2⟩ := lx.same (ad4 Dy H) sx
   refine ⟨ad4 Dy H, s1, s2, ?_, ?_, hput⟩
   ·rw [(cx _).1, t1, ly.out, lx.out, bi4]
    intro t u w h1 h2
    exact (q1 t (lx.w t u h1)).2 (ly.w t w h2)
   ·rw [(cx _).2, t2]
def bK5 (E : Env) (cp : F9) (cr : q8) (st : Nat) (ops : Array Oper) (F : Nat → FP) : List Nat → n8 → AH → n8 → AH → Prop
 | [], a, H, a', H' => a' = a ∧ H' = H
 | i :: l, a, H, a', H' => ∃ o v H1, ops[i]? = some o ∧ O0 E cp cr st ops o a H = some (v, H1) ∧ z8 E st ops o a H = F i ∧ bK5 E cp cr st ops F l (J7 a o.dst v) H1 a' H'
def cy1 (ops : Array Oper) (F : Nat → FP) (i j : Nat) : Prop := ∀ x y, ops[i]? = some x → ops[j]? = some y → x.apart ops y = true ∧ aC3 (F i) (F j) = true
theorem bK6 (hU : Up cr) {F : Nat → FP} {j : Nat} : ∀ {L1 L2 : List Nat} {a a' : n8} {H H' : AH}, bK5 E cp cr st ops F (L1 ++ j :: L2) a H a' H' → (∀ i ∈ L1, cy1 ops F i j) → bK5 E cp cr st ops F (j :: (L1 ++ L2)) a H a' H'
 | [], L2, a, a', H, H', h, _ => h
 | i :: L1, L2, a, a', H, H', h, hf => by
  obtain ⟨x, vx, H1, hx, ex, fx, hr⟩ := h
  obtain ⟨y, vy, H2, hy, ey, fy, hr'⟩ := bK6 hU hr (fun k hk => hf k (List.mem_cons_of_mem _ hk))
  obtain ⟨hap, hd⟩ := hf i (List.mem_cons_self ..) x y hx hy
  rw [← fx, ← fy] at hd
  obtain ⟨H1', e1, f1, e2, f2, hp⟩ := swap hU hap ex ey hd
  refine ⟨y, vy, H1', hy, e1, by rw [f1, fy], x, vx, H2, hx, e2, by rw [f2, fx], ?_⟩
  rw [hp]
  exact hr'
end
end Go.Proofs.YtpmjpogcaglphaaDoor.A
namespace Go.Proofs.YtpmjpogcaglphaaDoor.A
open Go
section
variable {E : Env} {cp : F9} {cr : q8} {st : Nat} {ops : Array Oper}
theorem aL5 {c : Ctx} {a : n8} {ca : Act} (hA : AR c a ca) {j : Nat} {y : Option Bool} (h : C6 ops a j = some y) : yielded ops ca.tmps j = y := by
 unfold C6 at h
 unfold yielded
 cases hd : (ops[j]?).bind (·.dst) with
 | none => rw [hd] at h; injection h with h
 | some d =>
  rw [hd] at h
  dsimp only at h
  have hs := hA.slot d
  simp only [Option.bind_some]
  have key : ∀ b, ca.tmps[d]? = some (.bool b) → VR c (a d) (.bool b) := fun b hb => by
   simpa [Array.getD_eq_getD_getElem?, hb] using hs
  cases ha : a d with
  | bool b =>
   rw [ha] at h hs
   injection h with h; subst h
   have hv := hs.bool_
   cases ht : ca.tmps[d]? with
   | none => simp [Array.getD_eq_getD_getElem?, ht, undef] at hv
   | some u => simp [Array.getD_eq_getD_getElem?, ht] at hv; subst hv; rfl
  | und => rw [ha] at h; cases h
  | mp => rw [ha] at h; cases h
  | _ =>
   rw [ha] at h
   injection h with h; subst h
   split
   ·rename_i b hb
    have hv := key b hb
    rw [ha] at hv
    cases hv with
    | data _ _ hv => cases hv
   ·rfl
theorem au5 {c : Ctx} {a : n8} {ca : Act} (hA : AR c a ca) {o : Oper} {b : Bool} (h : y9 ops a o = some b) : Region.wanted o (yielded ops ca.tmps) = b := by
 unfold y9 at h
 unfold Region.wanted
 cases hg : o.guard with
 | none => rw [hg] at h; injection h
 | some gw =>
  obtain ⟨g, want⟩ := gw
  rw [hg] at h
  dsimp only at h ⊢
  cases hy : C6 ops a g with
  | none => rw [hy] at h; cases h
  | some y =>
   rw [hy] at h
   simp only [Option.map_some] at h
   injection h with h
   rw [aL5 hA hy, h]
structure At (P : Program) (ops : Array Oper) (st n : Nat) (T0 : Tag → Prop) (nx0 : Nat) (L : List Nat) (c : Ctx) (a : n8) (ca : Act) (H : AH) : Prop where
 inv : Inv c
 heap : c.H = H.o
 act : AR c a ca
 size : ca.tmps.size = n
 lt : st < H.nx
 nx : ∀ t, c.T t → t.1 < H.nx
 old : ∀ t, c.T t → T0 t ∨ nx0 ≤ t.1
 fresh : ∀ i ∈ L, ∀ o d, ops[i]? = some o → A2 o = true → o.dst = some d → ¬ c.T (st, d)
theorem aL6 : ∀ {l : List Oper} {i j : Nat} {x y : Oper}, ag5 l = true → i < j → l[i]? = some x → l[j]? = some y → aK4 x y = false
 | [], i, j, x, y, _, _, h, _ => by simp at h
 | z :: l, i, j, x, y, h, hij, hx, hy => by
  simp only [ag5, Bool.and_eq_true, List.all_eq_true, Bool.not_eq_true'] at h
  cases j with
  | zero => omega
  | succ j =>
   simp only [List.getElem?_cons_succ] at hy
   cases i with
   | zero =>
    simp only [List.getElem?_cons_zero, Option.some.injEq] at hx
    subst hx
    exact h.1 y (List.mem_of_getElem? hy)
   | succ i => exact aL6 (i := i) (j := j) h.2 (by omega) (by simpa using hx) hy
theorem ba0 (x y : Oper) (h : aK4 x y = false) : aK4 y x = false := by
 unfold aK4 at *
 by_cases hx : A2 x = true <;> by_cases hy : A2 y = true <;> simp_all
 intro h1 h2
 have : x.dst.isSome = true := by rw [← h2]; exact h1
 simp [this, h2] at h
theorem au6 (hP : m7 E.P cp) (hX : m7 E.P E.ext) (hR : u9 E.P cr) (hn : ag5 ops.toList = true) {n nx0 : Nat} {T0 : Tag → Prop} {i : Nat} {L : List Nat} {o : Oper} {c : Ctx} {a : n8} {ca : Act} {H H1 : AH} {v : AV} (ho : ops[i]? = some o)
  (hd : ∀ d, o.dst = some d → d < n) (h0 : nx0 ≤ st) (hat : At E.P ops st n T0 nx0 (i :: L) c a ca H) (hL : i ∉ L) (h : O0 E cp cr st ops o a H = some (v, H1)) {K : Act → World → Prop} {Q : Exit → Act → World → Prop}
  (hK : ∀ c' ca', Step c c' → At E.P ops st n T0 nx0 L c' (J7 a o.dst v) ca' H1 → K ca' c'.w) : wpOp E.P ops Q i K ca c.w := by
 unfold wpOp
 simp only [ho]
 unfold O0 at h
 have hdn : ∀ d, o.dst = some d → d < ca.tmps.size := fun d hd' => by rw [hat.size]; exact hd d hd'
 split at h
 ·rename_i hw
  rw [au5 hat.act hw, if_pos rfl]
  obtain ⟨hle, hok⟩ := aD8 (K := K) (Q := Q) hP hX hR hat.inv hat.heap hat.act hat.nx (fun d hd' hc => hat.fresh i (List.mem_cons_self ..) o d ho hc hd') h
  refine .inl (hok fun c' cv hi hs hH hT hv => hK c' _ hs ?_)
  refine ⟨hi, hH, (hat.act.mono hs.mono).put o.dst hdn hv, by rw [aQ9, hat.size], Nat.lt_of_lt_of_le hat.lt hle, fun t ht => ?_, fun t ht => ?_, fun j hj y d hy hc hdst ht => ?_⟩
  ·rcases hT t ht with h1 | ⟨_, d, _, rfl⟩ | ⟨_, h1⟩
   ·exact Nat.lt_of_lt_of_le (hat.nx t h1) hle
   ·exact Nat.lt_of_lt_of_le hat.lt hle
   ·exact h1
  ·rcases hT t ht with h1 | ⟨_, d, _, rfl⟩ | ⟨h1, _⟩
   ·exact hat.old t h1
   ·exact .inr h0
   ·exact .inr (Nat.le_trans h0 (Nat.le_trans (Nat.le_of_lt hat.lt) h1))
  ·rcases hT _ ht with h1 | ⟨hc', d', hdst', e⟩ | ⟨h1, _⟩
   ·exact hat.fresh j (List.mem_cons_of_mem _ hj) y d hy hc hdst h1
   ·have hij : i ≠ j := fun e => hL (by rw [e]; exact hj)
    injection e with _ e
    have hcl : aK4 o y = false := by
     rcases Nat.lt_or_gt_of_ne hij with h2 | h2
     ·exact aL6 hn h2 (by simpa using ho) (by simpa using hy)
     ·exact ba0 _ _ (aL6 hn h2 (by simpa using hy) (by simpa using ho))
    subst e
    simp [aK4, hc, hc', hdst, hdst'] at hcl
   ·have := hat.lt
    simp only at h1
    omega
 ·rename_i hw
  rw [au5 hat.act hw]
  injection h with h
  injection h with h1 h2
  subst h1; subst h2
  simp only [Bool.false_eq_true, if_false]
  exact hK c _ (Step.refl c) ⟨hat.inv, hat.heap, hat.act.put o.dst hdn (VR.noV_ c), by rw [aQ9, hat.size], hat.lt, hat.nx, hat.old, fun j hj => hat.fresh j (List.mem_cons_of_mem _ hj)⟩
 ·cases h
theorem At.perm {n nx0 : Nat} {T0 : Tag → Prop} {L L' : List Nat} {c : Ctx} {a : n8} {ca : Act} {H : AH} (h : At E.P ops st n T0 nx0 L c a ca H) (hp : ∀ i ∈ L', i ∈ L) : At E.P ops st n T0 nx0 L' c a ca H :=
 ⟨h.inv, h.heap, h.act, h.size, h.lt, h.nx, h.old, fun i hi => h.fresh i (hp i hi)⟩
theorem au7 (hP : m7 E.P cp) (hX : m7 E.P E.ext) (hR : u9 E.P cr) (hn : ag5 ops.toList = true) {n nx0 : Nat} {T0 : Tag → Prop} (hd : ∀ (i : Nat) (o : Oper) (d : Nat), ops[i]? = some o → o.dst = some d → d < n) (h0 : nx0 ≤ st) {F : Nat → FP} {Q : Exit → Act → World → Prop} :
  ∀ {L : List Nat} {c : Ctx} {a a' : n8} {ca : Act} {H H' : AH}, L.Nodup → At E.P ops st n T0 nx0 L c a ca H → bK5 E cp cr st ops F L a H a' H' → (∀ c' ca', Step c c' → At E.P ops st n T0 nx0 [] c' a' ca' H' → Q .normal ca' c'.w) → wpOps E.P ops Q L ca c.w
 | [], c, a, a', ca, H, H', _, hat, hr, hQ => by
  obtain ⟨rfl, rfl⟩ := hr
  exact hQ c ca (Step.refl c) hat
 | i :: L, c, a, a', ca, H, H', hnd, hat, hr, hQ => by
  obtain ⟨o, v, H1, ho, hs, _, hr⟩ := hr
  rw [wpOps_cons]
  have hnd' := List.nodup_cons.1 hnd
  exact au6 hP hX hR hn ho (fun d hd' => hd i o d ho hd') h0 hat hnd'.1 hs fun c1 ca1 hs1 hat1 =>
   au7 hP hX hR hn hd h0 hnd'.2 hat1 hr fun c' ca' hs' hat' => hQ c' ca' (hs1.trans hs') hat'
structure Anc (ops : Array Oper) (B : Nat → List Nat) : Prop where
 lt : ∀ (j : Nat) (y : Oper) (e : Edge), ops[j]? = some y → e ∈ y.after → Region.binds .any e = true → e.on < j
 up : ∀ (j : Nat) (y : Oper) (i : Nat), ops[j]? = some y → i ∈ B j → ∃ e ∈ y.after, Region.binds .any e = true ∧ (i = e.on ∨ i ∈ B e.on)
theorem aE5 (hU : Up cr) (hP : m7 E.P cp) (hX : m7 E.P E.ext) (hR : u9 E.P cr) (hn : ag5 ops.toList = true) {n nx0 : Nat} {T0 : Tag → Prop} (hd : ∀ (i : Nat) (o : Oper) (d : Nat), ops[i]? = some o → o.dst = some d → d < n) (h0 : nx0 ≤ st) {F : Nat → FP} {B : Nat → List Nat} (hB : Anc ops B)
  (hF : ∀ i j, i < j → i ∉ B j → cy1 ops F i j) {Q : Exit → Act → World → Prop} :
  ∀ (fuel : Nat) {L : List Nat} {listed : Array Bool} {c : Ctx} {a a' : n8} {ca : Act} {H H' : AH}, L.length = fuel → L.Pairwise (· < ·) → listed.size = ops.size → (∀ i, i ∈ L ↔ listed.getD i true = false) →
   (∀ j, listed.getD j false = true → ∀ i ∈ B j, listed.getD i false = true) → At E.P ops st n T0 nx0 L c a ca H → bK5 E cp cr st ops F L a H a' H' →
   (∀ c' ca', Step c c' → At E.P ops st n T0 nx0 [] c' a' ca' H' → Q .normal ca' c'.w) → wpAny E.P .any ops Q fuel listed ca c.w
 | fuel, L, listed, c, a, a', ca, H, H', hlen, hsort, hsz, hmem, hclosed, hat, hr, hQ => by
  have hbool : ∀ j, j < ops.size → (listed.getD j false = true ↔ j ∉ L) := fun j hj => by
   rw [hmem]
   have hj' : j < listed.size := by omega
   simp [hj']
  have hready : ∀ j, j ∈ Region.ready .any ops listed ↔ j ∈ L ∧ ∃ o, ops[j]? = some o ∧ ∀ e ∈ o.after, Region.binds .any e = true → listed.getD e.on false = true := fun j => by rw [mem_ready, hmem]
  cases fuel with
  | zero =>
   have hL : L = [] := List.eq_nil_of_length_eq_zero hlen
   subst hL
   obtain ⟨rfl, rfl⟩ := hr
   refine ⟨List.eq_nil_iff_forall_not_mem.2 fun j hj => ?_, hQ c ca (Step.refl c) hat⟩
   have := ((hready j).1 hj).1
   cases this
  | succ fuel =>
   refine ⟨fun hnil => ?_, fun j hj => ?_⟩
   ·-- the least of the rest is ready
    cases L with
    | nil => cases hlen
    | cons i L =>
     exfalso
     obtain ⟨o, v, H1, ho, _, _, _⟩ := hr
     have : i ∈ Region.ready .any ops listed := (hready i).2 ⟨List.mem_cons_self .., o, ho, fun e he hb => ?_⟩
     ·rw [hnil] at this; cases this
     ·have hlt := hB.lt i o e ho he hb
      have hi : i < ops.size := (Array.getElem?_eq_some_iff.1 ho).1
      rw [hbool e.on (by omega)]
      intro hm
      rcases List.mem_cons.1 hm with h1 | h1
      ·omega
      ·have := (List.pairwise_cons.1 hsort).1 _ h1
       omega
   ·obtain ⟨hjL, o, ho, hafter⟩ := (hready j).1 hj
    obtain ⟨L1, L2, rfl⟩ := List.append_of_mem hjL
    have hjs : j < ops.size := (Array.getElem?_eq_some_iff.1 ho).1
    have hBj : ∀ i ∈ B j, listed.getD i false = true := fun i hi => by
     obtain ⟨e, he, hb, h1 | h1⟩ := hB.up j o i ho hi
     ·rw [h1]; exact hafter e he hb
     ·exact hclosed e.on (hafter e he hb) i h1
    have hsort' := List.pairwise_append.1 hsort
    have hL1 : ∀ i ∈ L1, i < j := fun i hi => hsort'.2.2 i hi j (List.mem_cons_self ..)
    have hfree : ∀ i ∈ L1, cy1 ops F i j := fun i hi => hF i j (hL1 i hi) fun hm => by
     have h1 := hBj i hm
     rw [hbool i (by have := hL1 i hi; omega)] at h1
     exact h1 (List.mem_append_left _ hi)
    have hnd : (L1 ++ j :: L2).Nodup := hsort.imp (fun h => Nat.ne_of_lt h)
    have hjn : j ∉ L1 ++ L2 := by
     rw [List.nodup_append] at hnd
     intro hm
     rcases List.mem_append.1 hm with h1 | h1
     ·exact hnd.2.2 j h1 j (List.mem_cons_self ..) rfl
     ·exact (List.nodup_cons.1 hnd.2.1).1 h1
    obtain ⟨o', v, H1, ho', hs, _, hr'⟩ := bK6 hU hr hfree
    obtain rfl : o' = o := by rw [ho] at ho'; injection ho' with h; exact h.symm
    refine au6 hP hX hR hn ho (fun d hd' => hd j o' d ho hd') h0 (hat.perm (L' := j :: (L1 ++ L2)) fun i hi => ?_) hjn hs fun c1 ca1 hs1 hat1 => ?_
    ·simp only [List.mem_cons, List.mem_append] at hi ⊢
     rcases hi with h1 | h1 | h1
     ·exact .inr (.inl h1)
     ·exact .inl h1
     ·exact .inr (.inr h1)
    ·refine aE5 hU hP hX hR hn hd h0 hB hF fuel (L := L1 ++ L2) ?_ ?_ (by simpa using hsz) (fun i => ?_) (fun k hk i hi => ?_) hat1 hr' (fun c' ca' hs' hat' => hQ c' ca' (hs1.trans hs') hat')
     ·simp at hlen ⊢
      omega
     ·refine List.pairwise_append.2 ⟨hsort'.1, (List.pairwise_cons.1 hsort'.2.1).2, fun x hx y hy => hsort'.2.2 x hx y (List.mem_cons_of_mem _ hy)⟩
     ·by_cases hij : j = i
      ·subst hij
       refine ⟨fun h => absurd h hjn, fun h => ?_⟩
       have hj' : j < listed.size := by omega
       simp [hj'] at h
      ·rw [getD_set_ne true hij, ← hmem]
       simp only [List.mem_append, List.mem_cons]
       constructor
       ·rintro (h | h)
        ·exact .inl h
        ·exact .inr (.inr h)
       ·rintro (h | h | h)
        ·exact .inl h
        ·exact absurd h.symm hij
        ·exact .inr h
     ·by_cases hjk : j = k
      ·subst hjk
       exact getD_set_true (hBj i hi)
      ·rw [getD_set_ne false hjk] at hk
       exact getD_set_true (hclosed k hk i hi)
end
end Go.Proofs.YtpmjpogcaglphaaDoor.A
namespace Go.Proofs.YtpmjpogcaglphaaDoor.A
open Go
section
variable {E : Env} {cp : F9} {cr : q8} {st : Nat} {ops : Array Oper}
theorem ae7 (o : Oper) (a : n8) (H : AH) : (M6 E o = 0 → z8 E st ops o a H = FP.none_) ∧ (M6 E o ≤ 1 → (z8 E st ops o a H).w = [] ∧ (z8 E st ops o a H).all = false) := by
 by_cases hw : y9 ops a o = some true
 ·rw [aL2 hw]
  obtain ⟨dst, op, type, pos, after, guard⟩ := o
  unfold M6
  cases op <;> dsimp only <;> try exact ⟨fun h => (by cases h), fun h => (by omega)⟩
  all_goals try exact ⟨fun _ => rfl, fun _ => ⟨rfl, rfl⟩⟩
  all_goals try exact ⟨fun h => (by cases h), fun _ => ⟨rfl, rfl⟩⟩
  rename_i c
  cases hc : c.callee with
  | invoke r m => exact ⟨fun h => (by cases h), fun h => (by dsimp only at h; omega)⟩
  | builtin b => cases b <;> first | exact ⟨fun h => (by cases h), fun h => (by dsimp only at h; omega)⟩ | exact ⟨fun h => (by cases h), fun _ => ⟨rfl, rfl⟩⟩
  | value f =>
   cases f with
   | func g =>
    simp only [opd]
    cases hm : E.mode g with
    | pure b => cases b <;> first | exact ⟨fun h => (by cases h), fun h => (by dsimp only at h; omega)⟩ | exact ⟨fun h => (by cases h), fun _ => ⟨rfl, rfl⟩⟩
    | ext b => cases b <;> first | exact ⟨fun h => (by cases h), fun h => (by dsimp only at h; omega)⟩ | exact ⟨fun h => (by cases h), fun _ => ⟨rfl, rfl⟩⟩
    | raw b => exact ⟨fun h => (by cases h), fun h => (by dsimp only at h; omega)⟩
   | _ => exact ⟨fun h => (by cases h), fun h => (by dsimp only at h; omega)⟩
 ·have : z8 E st ops o a H = FP.none_ := by unfold z8; rw [if_neg hw]
  rw [this]
  exact ⟨fun _ => rfl, fun _ => ⟨rfl, rfl⟩⟩
theorem aS1 (o : Oper) : M6 E o ≤ 2 := by
 unfold M6
 repeat' split
 all_goals omega
theorem ba1 {fx fy : FP} {tx ty : Nat} (hx : (tx = 0 → fx = FP.none_) ∧ (tx ≤ 1 → fx.w = [] ∧ fx.all = false)) (hy : (ty = 0 → fy = FP.none_) ∧ (ty ≤ 1 → fy.w = [] ∧ fy.all = false)) (lx : tx ≤ 2) (ly : ty ≤ 2)
  (h : ((tx == 2 && ty != 0) || (ty == 2 && tx != 0)) = false) : aC3 fx fy = true := by
 have key : tx = 0 ∨ ty = 0 ∨ (tx ≤ 1 ∧ ty ≤ 1) := by
  simp only [Bool.or_eq_false_iff, Bool.and_eq_false_iff, beq_eq_false_iff_ne, bne_eq_false_iff_eq] at h
  omega
 rcases key with h0 | h0 | ⟨h1, h2⟩
 ·rw [hx.1 h0]
  unfold aC3 FP.none_
  cases ha : fy.all <;> simp
 ·rw [hy.1 h0]
  unfold aC3 FP.none_
  cases ha : fx.all <;> simp
 ·obtain ⟨w1, a1⟩ := hx.2 h1
  obtain ⟨w2, a2⟩ := hy.2 h2
  unfold aC3
  simp [w1, a1, w2, a2]
theorem ah0 : ∀ {l : List Oper} {done bs : List (List Nat)}, ak8 l done = some bs → ∃ tail, bs = done ++ tail ∧ ∀ (k : Nat) (o : Oper), l[k]? = some o →
  (∀ e ∈ o.after, Region.binds .any e = true → e.on < done.length + k) ∧ ∀ i ∈ (bs[done.length + k]?).getD [], ∃ e ∈ o.after, Region.binds .any e = true ∧ (i = e.on ∨ i ∈ (bs[e.on]?).getD [])
 | [], done, bs, h => by
  simp only [ak8] at h
  injection h with h
  exact ⟨[], by simp [h], fun k o ho => by simp at ho⟩
 | x :: l, done, bs, h => by
  simp only [ak8] at h
  split at h
  ·rename_i b hb
   obtain ⟨tail, rfl, hspec⟩ := ah0 h
   refine ⟨b :: tail, by simp, fun k o ho => ?_⟩
   cases k with
   | zero =>
    simp only [List.getElem?_cons_zero, Option.some.injEq] at ho
    subst ho
    unfold bg4 at hb
    split at hb
    ·rename_i hall
     injection hb with hb
     have hlt : ∀ e ∈ x.after, Region.binds .any e = true → e.on < done.length := fun e he hbd => by
      have := List.all_eq_true.1 hall e (by simpa using he)
      simpa [hbd] using this
     refine ⟨hlt, fun i hi => ?_⟩
     have : (done ++ [b] ++ tail)[done.length + 0]? = some b := by simp
     rw [this] at hi
     simp only [Option.getD_some] at hi
     rw [← hb] at hi
     have hi := (aQ5 hi).resolve_right (by simp)
     obtain ⟨e, he, hi⟩ := List.mem_flatMap.1 hi
     obtain ⟨he, hbd⟩ := List.mem_filter.1 he
     have he' : e ∈ x.after := by simpa using he
     refine ⟨e, he', hbd, ?_⟩
     rcases List.mem_cons.1 hi with h1 | h1
     ·exact .inl h1
     ·refine .inr ?_
      rw [List.append_assoc, List.getElem?_append_left (hlt e he' hbd)]
      exact h1
    ·cases hb
   | succ k =>
    simp only [List.getElem?_cons_succ] at ho
    have := hspec k o ho
    simp only [List.length_append, List.length_cons, List.length_nil] at this
    have e : done.length + (0 + 1) + k = done.length + (k + 1) := by omega
    rw [e] at this
    exact this
  ·cases h
theorem bi5 {prs : List (Nat × Nat)} (h : S0 E ops = some prs) : ∃ B : Nat → List Nat, Anc ops B ∧ ∀ (i j : Nat) (x y : Oper), i < j → ops[i]? = some x → ops[j]? = some y → i ∉ B j →
  x.apart ops y = true ∧ (((M6 E x == 2 && M6 E y != 0) || (M6 E y == 2 && M6 E x != 0)) = false ∨ (i, j) ∈ prs) := by
 unfold S0 at h
 split at h
 ·cases h
 ·rename_i bs hbs
  dsimp only at h
  split at h
  ·cases h
  ·split at h
   ·rename_i hall
    injection h with h
    obtain ⟨tail, _, hspec⟩ := ah0 hbs
    refine ⟨fun j => (bs[j]?).getD [], ⟨fun j y e hy he hb => ?_, fun j y i hy hi => ?_⟩, fun i j x y hij hx hy hi => ?_⟩
    ·have := (hspec j y (by simpa using hy)).1 e he hb
     simpa using this
    ·have := (hspec j y (by simpa using hy)).2 i (by simpa using hi)
     simpa using this
    ·have hm : (x, i, y, j) ∈ (ops.toList.zipIdx.flatMap fun (y, j) => (ops.toList.zipIdx.take j).filterMap fun (x, i) => if ((bs[j]?).getD []).contains i then none else some (x, i, y, j)) := by
      refine List.mem_flatMap.2 ⟨(y, j), List.mk_mem_zipIdx_iff_getElem?.2 (by simpa using hy), ?_⟩
      refine List.mem_filterMap.2 ⟨(x, i), ?_, ?_⟩
      ·refine List.mem_of_getElem? (i := i) ?_
       rw [List.getElem?_take_of_lt hij, List.getElem?_zipIdx]
       have : ops.toList[i]? = some x := by simpa using hx
       rw [this]
       simp
      ·dsimp only
       rw [if_neg (by simpa using hi)]
     have ha := List.all_eq_true.1 hall _ hm
     refine ⟨ha, ?_⟩
     by_cases ht : ((M6 E x == 2 && M6 E y != 0) || (M6 E y == 2 && M6 E x != 0)) = true
     ·right
      rw [← h]
      refine List.mem_map.2 ⟨(x, i, y, j), List.mem_filter.2 ⟨hm, ?_⟩, rfl⟩
      exact ht
     ·left
      simpa using ht
   ·cases h
theorem am9 : ∀ {l : List Oper} {k : Nat} {a a' : n8} {H H' : AH} {fs : List FP} {F : Nat → FP}, (∀ j o, l[j]? = some o → ops[k + j]? = some o) → (∀ j, F (k + j) = (fs[j]?).getD FP.none_) → E1 E cp cr st ops l a H = some (a', H', fs) → bK5 E cp cr st ops F (List.range' k l.length) a H a' H'
 | [], k, a, a', H, H', fs, F, _, _, h => by
  simp only [E1] at h
  injection h with h
  injection h with h1 h
  injection h with h2 h3
  exact ⟨h1.symm, h2.symm⟩
 | o :: l, k, a, a', H, H', fs, F, hl, hF, h => by
  simp only [E1] at h
  rw [aS0] at h
  cases hs : O0 E cp cr st ops o a H with
  | none => rw [hs] at h; cases h
  | some p =>
   rw [hs] at h
   simp only [Option.map_some] at h
   split at h
   ·rename_i a2 H2 fs' hr
    injection h with h
    injection h with h1 h
    injection h with h2 h3
    subst h1; subst h2; subst h3
    refine ⟨o, p.1, p.2, by simpa using hl 0 o rfl, hs, by simpa using (hF 0).symm, ?_⟩
    refine am9 (fun j x hj => ?_) (fun j => ?_) hr
    ·have := hl (j + 1) x (by simpa using hj)
     rw [← this]
     congr 1
     omega
    ·have := hF (j + 1)
     simp only [List.getElem?_cons_succ] at this
     rw [← this]
     congr 1
     omega
   ·cases h
theorem S8 : ∀ {l : List Oper} {a a' : n8} {H H' : AH}, steps E cp cr st ops l a H = some (a', H') → ∃ fs, E1 E cp cr st ops l a H = some (a', H', fs)
 | [], a, a', H, H', h => by
  simp only [steps] at h
  injection h with h
  injection h with h1 h2
  exact ⟨[], by simp [E1, h1, h2]⟩
 | o :: l, a, a', H, H', h => by
  simp only [steps] at h
  cases hs : P8 E cp cr st ops o a H with
  | none => rw [hs] at h; cases h
  | some p =>
   obtain ⟨a1, H1⟩ := p
   rw [hs] at h
   obtain ⟨fs, hf⟩ := S8 h
   exact ⟨_, by simp only [E1, hs, hf]; rfl⟩
theorem an0 {F : Nat → FP} : ∀ {L : List Nat} {a a' : n8} {H H' : AH}, bK5 E cp cr st ops F L a H a' H' → ∀ i ∈ L, ∃ o b G, ops[i]? = some o ∧ z8 E st ops o b G = F i
 | [], a, a', H, H', _, i, hi => by cases hi
 | j :: L, a, a', H, H', h, i, hi => by
  obtain ⟨o, v, H1, ho, hs, hf, hr⟩ := h
  rcases List.mem_cons.1 hi with h1 | h1
  ·subst h1; exact ⟨o, a, H, ho, hf⟩
  ·exact an0 hr i h1
abbrev dg0 (T0 : Tag → Prop) (nx0 n : Nat) (c : Ctx) (a' : n8) (H' : AH) (R : Act → World → Prop) : Prop :=
 ∀ c' ca', Inv c' → Step c c' → c'.H = H'.o → AR c' a' ca' → ca'.tmps.size = n → (∀ t, c'.T t → t.1 < H'.nx) → (∀ t, c'.T t → T0 t ∨ nx0 ≤ t.1) → R ca' c'.w
theorem ah1 (hU : Up cr) (hP : m7 E.P cp) (hX : m7 E.P E.ext) (hR : u9 E.P cr) (hm : E.P.follows .mixedOrders = true) {id n nx0 : Nat} {T0 : Tag → Prop} {draw : Bool} (hn : ag5 ops.toList = true) (hd : bK2 n ops.toList = true) {c : Ctx} {a a' : n8} {ca : Act} {H H' : AH}
  {out : Out} (hI : Inv c) (hH : c.H = H.o) (hA : AR c a ca) (hsz : ca.tmps.size = n) (h0 : nx0 ≤ H.nx) (hnx : ∀ t, c.T t → t.1 < H.nx) (hold : ∀ t, c.T t → T0 t ∨ nx0 ≤ t.1) (h : E2 E cp cr ops draw a H = some (out, a', H')) {Q : Exit → Act → World → Prop}
  (hQ : dg0 T0 nx0 n c a' H' (Q .normal)) : out = .normal ∧ (Code.region id ops draw).wp E.P Q ca c.w := by
 have hd' : ∀ (i : Nat) (o : Oper) (d : Nat), ops[i]? = some o → o.dst = some d → d < n := fun i o d ho hdst => by
  have := List.all_eq_true.1 hd o (by simpa using Array.mem_of_getElem? ho)
  rw [hdst] at this
  simpa using this
 have fin : ∀ {c1 : Ctx}, Step c c1 → ∀ c' ca', Step c1 c' → At E.P ops H.nx n T0 nx0 [] c' a' ca' H' → Q .normal ca' c'.w := fun s1 c' ca' hs hat => hQ c' ca' hat.inv (s1.trans hs) hat.heap hat.act hat.size hat.nx hat.old
 have start : ∀ {c1 : Ctx}, Inv c1 → c1.H = H.o → AR c1 a ca → c1.T = c.T → ∀ L, At E.P ops H.nx n T0 nx0 L c1 a ca { H with nx := H.nx + 1 } := fun {c1} i1 hh ha ht L => by
  refine ⟨i1, hh, ha, hsz, by simp, fun t hT => ?_, fun t hT => ?_, fun i _ o d _ _ _ hT => ?_⟩
  ·rw [ht] at hT
   have := hnx t hT
   simp only
   omega
  ·rw [ht] at hT
   exact hold t hT
  ·rw [ht] at hT
   have := hnx _ hT
   simp only at this
   omega
 have runs0 : ∀ {fs : List FP}, E1 E cp cr H.nx ops ops.toList a { H with nx := H.nx + 1 } = some (a', H', fs) → bK5 E cp cr H.nx ops (fun i => (fs[i]?).getD FP.none_) (List.range ops.size) a { H with nx := H.nx + 1 } a' H' := fun {fs} hf => by
  have := am9 (k := 0) (F := fun i => (fs[i]?).getD FP.none_) (fun j o hj => by simpa using hj) (fun j => by simp) hf
  rw [List.range_eq_range']
  simpa using this
 have drawn : ∀ {prs : List (Nat × Nat)} {fs : List FP}, S0 E ops = some prs → I0 fs prs = true → E1 E cp cr H.nx ops ops.toList a { H with nx := H.nx + 1 } = some (a', H', fs) → (Code.region id ops true).wp E.P Q ca c.w := fun {prs fs} ho hr hf => by
  have hruns := runs0 hf
  obtain ⟨B, hB, hpairs⟩ := bi5 ho
  obtain ⟨i1, s1⟩ := ad8 (c := c) (w := { c.w with drawn := c.w.drawn + 1 }) hI rfl rfl rfl rfl
  refine wp_region_any hm ?_
  have hF : ∀ i j, i < j → i ∉ B j → cy1 ops (fun i => (fs[i]?).getD FP.none_) i j := fun i j hij hi x y hx hy => by
   obtain ⟨hap, hl⟩ := hpairs i j x y hij hx hy hi
   refine ⟨hap, ?_⟩
   rcases hl with hl | hl
   ·have hxs := (Array.getElem?_eq_some_iff.1 hx).1
    have hys := (Array.getElem?_eq_some_iff.1 hy).1
    obtain ⟨x', b1, G1, hx', f1⟩ := an0 hruns i (List.mem_range.2 hxs)
    obtain ⟨y', b2, G2, hy', f2⟩ := an0 hruns j (List.mem_range.2 hys)
    rw [hx] at hx'
    rw [hy] at hy'
    injection hx' with hx'
    injection hy' with hy'
    subst hx'; subst hy'
    dsimp only at f1 f2 ⊢
    rw [← f1, ← f2]
    exact ba1 (ae7 x b1 G1) (ae7 y b2 G2) (aS1 x) (aS1 y) hl
   ·have := List.all_eq_true.1 hr (i, j) hl
    dsimp only at this
    split at this
    ·rename_i fx fy h1 h2
     simp only [h1, h2, Option.getD_some]
     exact this
    ·cases this
  refine aE5 hU hP hX hR hn hd' h0 hB hF ops.size (L := List.range ops.size) (c := c.world { c.w with drawn := c.w.drawn + 1 }) (by simp) List.pairwise_lt_range (by simp) (fun i => ?_) (fun j hj => ?_) (start i1 hH (hA.mono s1.mono) rfl _) hruns (fin s1)
  ·rw [List.mem_range]
   by_cases hi : i < ops.size <;> simp [hi]
  ·exfalso
   by_cases hj' : j < ops.size <;> simp [hj'] at hj
 unfold E2 at h
 cases draw with
 | false =>
  dsimp only at h
  cases hs : steps E cp cr H.nx ops ops.toList a { H with nx := H.nx + 1 } with
  | none => rw [hs] at h; cases h
  | some p =>
   rw [hs] at h
   simp only [Option.map_some] at h
   injection h with h
   injection h with h1 h
   injection h with h2 h3
   refine ⟨h1.symm, ?_⟩
   obtain ⟨fs, hf⟩ := S8 (show steps E cp cr H.nx ops ops.toList a { H with nx := H.nx + 1 } = some (a', H') from by rw [hs, ← h2, ← h3])
   exact wp_region (au7 hP hX hR hn hd' h0 List.nodup_range (start hI hH hA rfl _) (runs0 hf) (fin (Step.refl c)))
 | true =>
  dsimp only at h
  split at h
  ·rename_i ho
   cases hs : steps E cp cr H.nx ops ops.toList a { H with nx := H.nx + 1 } with
   | none => rw [hs] at h; cases h
   | some p =>
    rw [hs] at h
    simp only [Option.map_some] at h
    injection h with h
    injection h with h1 h
    injection h with h2 h3
    refine ⟨h1.symm, ?_⟩
    obtain ⟨fs, hf⟩ := S8 (show steps E cp cr H.nx ops ops.toList a { H with nx := H.nx + 1 } = some (a', H') from by rw [hs, ← h2, ← h3])
    exact drawn ho rfl hf
  ·rename_i prs _ ho
   split at h
   ·rename_i a1 H1 fs hf
    split at h
    ·rename_i hr
     injection h with h
     injection h with h1 h
     injection h with h2 h3
     refine ⟨h1.symm, ?_⟩
     exact drawn ho hr (by rw [hf, h2, h3])
    ·cases h
   ·cases h
  ·cases h
end
end Go.Proofs.YtpmjpogcaglphaaDoor.A
namespace Go.Proofs.YtpmjpogcaglphaaDoor.A
open Go
section
variable {E : Env} {cp : F9} {cr : q8} {st : Nat} {ops : Array Oper} {v : AV}
theorem H6 {x : Option AV} {H H' : AH} (h : (x.map (·, H)) = some (v, H')) : H.nx ≤ H'.nx := by rw [(am5 h).2]; exact Nat.le_refl _
theorem ar8 {n m : Nat} (h : m = n) : n ≤ m := by rw [h]; exact Nat.le_refl _
theorem by8 {P : Program} {tg : Tag} {t : TypeId} {len : Nat} {ps : List (Nat × AV)} {H H' : AH} (h : l7 P tg t len ps H = some (v, H')) : H'.nx = H.nx := by
 unfold l7 at h
 split at h
 ·cases h
 ·split at h
  ·split at h
   ·split at h
    ·injection h with h; injection h with h1 h2; subst h2; rfl
    ·cases h
   ·cases h
  ·cases h
theorem bO8 {P : Program} {tg : Tag} {t : TypeId} {l cp : Int} {H H' : AH} (h : q7 P tg t l cp H = some (v, H')) : H'.nx = H.nx := by
 unfold q7 at h
 split at h
 ·cases h
 ·split at h
  ·split at h
   ·injection h with h; injection h with h1 h2; subst h2; rfl
   ·cases h
  ·cases h
theorem au8 {sc : Bool} {as_ : List AV} {r : AV} {H H' : AH} (hf : B2 sc as_ r H = some (v, H')) : H'.nx = H.nx := by
 unfold B2 at hf
 split at hf
 ·split at hf
  ·injection hf with hf; injection hf with h1 h2; rw [← h2]
  ·cases hf
 ·injection hf with hf; injection hf with h1 h2; rw [← h2]
theorem ba2 (frz : Bool) (r : AV) (H : AH) : (p8 frz r H).2.nx = H.nx := by
 unfold p8
 split
 ·dsimp only
  split <;> rfl
 ·rfl
theorem bO9 (hR : Up cr) {fv : AV} {args : List AV} {H H' : AH} (h : ai5 E cp cr fv args H = some (v, H')) : H.nx ≤ H'.nx := by
 unfold ai5 at h
 split at h
 ·dsimp only at h
  split at h
  ·obtain ⟨r, _, h⟩ := d5 h
   exact ar8 (au8 h)
  ·obtain ⟨r, _, h⟩ := d5 h
   exact ar8 (au8 h)
  ·rename_i g first captured _ frz _
   cases hs : cr g (first ++ args ++ captured) H with
   | none => rw [hs] at h; cases h
   | some p =>
    rw [hs] at h
    simp only [Option.map_some] at h
    injection h with h
    have : (p8 frz p.1 p.2).2 = H' := by rw [h]
    rw [← this, ba2]
    exact (hR _ _ _ _ _ hs).1
 ·cases h
theorem bi6 (hR : Up cr) {o : Oper} {a : n8} {H H' : AH} (h : f9 E cp cr st o a H = some (v, H')) : H.nx ≤ H'.nx := by
 unfold f9 at h
 split at h
 ·exact H6 h
 ·exact H6 h
 ·split at h
  ·exact H6 h
  ·exact H6 h
  ·cases h
 ·split at h
  ·injection h with h; injection h with h1 h2; subst h2; exact Nat.le_refl _
  ·cases h
 ·split at h
  ·split at h
   ·injection h with h; injection h with h1 h2; subst h2; exact Nat.le_refl _
   ·cases h
  ·cases h
 ·obtain ⟨_, _, h⟩ := d5 h
  exact H6 h
 ·obtain ⟨_, _, h⟩ := A0 h
  obtain ⟨_, _, h⟩ := d5 h
  exact ar8 (by8 h)
 ·obtain ⟨_, _, h⟩ := d5 h
  exact H6 h
 ·rename_i t p x _
  obtain ⟨pv, _, h⟩ := d5 h
  obtain ⟨xv, _, h⟩ := d5 h
  cases hs : H4 E.P t pv xv H with
  | none => rw [hs] at h; cases h
  | some H1 =>
   rw [hs] at h
   simp only [Option.map_some] at h
   injection h with h; injection h with h1 h2
   rw [← h2]
   exact ar8 (aD7 hs)
 ·split at h
  ·injection h with h; injection h with h1 h2; subst h2; exact Nat.le_refl _
  ·injection h with h; injection h with h1 h2; subst h2; exact Nat.le_refl _
  ·injection h with h; injection h with h1 h2; subst h2; exact Nat.le_refl _
  ·cases h
 ·obtain ⟨_, _, h⟩ := d5 h
  obtain ⟨_, _, h⟩ := d5 h
  exact H6 h
 ·obtain ⟨_, _, h⟩ := d5 h
  exact H6 h
 ·obtain ⟨_, _, h⟩ := A0 h
  obtain ⟨_, _, h⟩ := d5 h
  exact ar8 (am6 h)
 ·split at h
  ·injection h with h; injection h with h1 h2; subst h2; exact Nat.le_refl _
  ·cases h
 ·split at h
  ·injection h with h; injection h with h1 h2; subst h2; exact Nat.le_refl _
  ·cases h
 ·obtain ⟨_, _, h⟩ := A0 h
  obtain ⟨_, _, h⟩ := d5 h
  obtain ⟨_, _, h⟩ := d5 h
  exact ar8 (bO8 h)
 ·obtain ⟨_, _, h⟩ := d5 h
  obtain ⟨_, _, h⟩ := d5 h
  obtain ⟨_, _, h⟩ := d5 h
  exact H6 h
 ·split at h
  ·split at h
   ·cases h
   ·injection h with h; injection h with h1 h2; subst h2; exact Nat.le_refl _
  ·split at h
   ·cases h
   ·injection h with h; injection h with h1 h2; subst h2; exact Nat.le_refl _
  ·cases h
 ·split at h
  ·exact H6 h
  ·cases h
 ·obtain ⟨_, _, h⟩ := d5 h
  obtain ⟨_, _, h⟩ := d5 h
  exact H6 h
 ·obtain ⟨_, _, h⟩ := d5 h
  obtain ⟨_, _, h⟩ := d5 h
  exact H6 h
 ·obtain ⟨_, _, h⟩ := d5 h
  obtain ⟨_, _, h⟩ := d5 h
  exact H6 h
 ·rename_i t m k x _
  obtain ⟨mv, _, h⟩ := d5 h
  obtain ⟨kv, _, h⟩ := d5 h
  obtain ⟨xv, _, h⟩ := d5 h
  cases hs : m6 E.P t mv kv xv H with
  | none => rw [hs] at h; cases h
  | some H1 =>
   rw [hs] at h
   simp only [Option.map_some] at h
   injection h with h; injection h with h1 h2
   rw [← h2]
   exact ar8 (I7 hs)
 ·rename_i t m k x _
  obtain ⟨mv, _, h⟩ := d5 h
  obtain ⟨kv, _, h⟩ := d5 h
  obtain ⟨xv, _, h⟩ := d5 h
  cases hs : m6 E.P t mv kv xv H with
  | none => rw [hs] at h; cases h
  | some H1 =>
   rw [hs] at h
   simp only [Option.map_some] at h
   injection h with h; injection h with h1 h2
   rw [← h2]
   exact ar8 (I7 hs)
 ·split at h
  ·exact H6 h
  ·cases h
 ·obtain ⟨args, _, h⟩ := d5 h
  split at h
  ·obtain ⟨_, _, h⟩ := d5 h
   exact bO9 hR h
  ·split at h
   ·exact H6 h
   ·cases h
  ·split at h
   ·split at h
    ·obtain ⟨_, _, h⟩ := A0 h
     exact ar8 (au1 h)
    ·cases h
   ·cases h
  ·split at h
   ·split at h
    ·exact ar8 (aR9 h)
    ·cases h
   ·cases h
  ·exact H6 h
  ·exact H6 h
  ·cases h
 ·cases h
theorem aS2 (hR : Up cr) {o : Oper} {a a' : n8} {H H' : AH} (h : P8 E cp cr st ops o a H = some (a', H')) : H.nx ≤ H'.nx := by
 unfold P8 at h
 split at h
 ·cases hs : f9 E cp cr st o a H with
  | none => rw [hs] at h; cases h
  | some p =>
   rw [hs] at h
   simp only [Option.map_some] at h
   injection h with h; injection h with h1 h2
   rw [← h2]
   exact bi6 hR (show f9 E cp cr st o a H = some (p.1, p.2) from hs)
 ·injection h with h; injection h with h1 h2; subst h2; exact Nat.le_refl _
 ·cases h
theorem aS3 (hR : Up cr) : ∀ {l : List Oper} {a a' : n8} {H H' : AH}, steps E cp cr st ops l a H = some (a', H') → H.nx ≤ H'.nx
 | [], a, a', H, H', h => by
  simp only [steps] at h
  injection h with h; injection h with h1 h2; subst h2; exact Nat.le_refl _
 | o :: l, a, a', H, H', h => by
  simp only [steps] at h
  split at h
  ·rename_i a1 H1 hs
   exact Nat.le_trans (aS2 hR hs) (aS3 hR h)
  ·cases h
theorem aE6 (hR : Up cr) : ∀ {l : List Oper} {a a' : n8} {H H' : AH} {fs : List FP}, E1 E cp cr st ops l a H = some (a', H', fs) → H.nx ≤ H'.nx
 | [], a, a', H, H', fs, h => by
  simp only [E1] at h
  injection h with h; injection h with h1 h2; injection h2 with h2 h3; subst h2; exact Nat.le_refl _
 | o :: l, a, a', H, H', fs, h => by
  simp only [E1] at h
  split at h
  ·rename_i a1 H1 hs
   split at h
   ·rename_i a2 H2 fs' hr
    injection h with h; injection h with h1 h2; injection h2 with h2 h3
    rw [← h2]
    exact Nat.le_trans (aS2 hR hs) (aE6 hR hr)
   ·cases h
  ·cases h
theorem aE7 (hR : Up cr) {draw : Bool} {a a' : n8} {H H' : AH} {out : Out} (h : E2 E cp cr ops draw a H = some (out, a', H')) : H.nx ≤ H'.nx := by
 have plain : ((steps E cp cr H.nx ops ops.toList a { H with nx := H.nx + 1 }).map fun p => (Out.normal, p.1, p.2)) = some (out, a', H') → H.nx ≤ H'.nx := fun h => by
  cases hs : steps E cp cr H.nx ops ops.toList a { H with nx := H.nx + 1 } with
  | none => rw [hs] at h; cases h
  | some p =>
   rw [hs] at h
   simp only [Option.map_some] at h
   injection h with h; injection h with h1 h2; injection h2 with h2 h3
   have := aS3 hR (show steps E cp cr H.nx ops ops.toList a { H with nx := H.nx + 1 } = some (p.1, p.2) from hs)
   rw [← h3]
   simp only at this
   omega
 unfold E2 at h
 split at h
 ·exact plain h
 ·split at h
  ·exact plain h
  ·split at h
   ·rename_i a1 H1 fs hs
    split at h
    ·injection h with h; injection h with h1 h2; injection h2 with h2 h3
     have := aE6 hR hs
     rw [← h3]
     simp only at this
     omega
    ·cases h
   ·cases h
  ·cases h
def UpR (r : AH → Res) : Prop := ∀ H out a' H', r H = some (out, a', H') → H.nx ≤ H'.nx
theorem bi7 {r : Res} {f : n8 → AH → Res} {H0 H' : AH} {out : Out} {a' : n8} (hr : ∀ o1 a1 H1, r = some (o1, a1, H1) → H0.nx ≤ H1.nx) (hf : ∀ a, UpR (f a)) (h : bg5 r f = some (out, a', H')) : H0.nx ≤ H'.nx := by
 unfold bg5 at h
 split at h
 ·rename_i a1 H1
  exact Nat.le_trans (hr _ _ _ rfl) (hf _ _ _ _ _ h)
 ·exact hr _ _ _ h
theorem bi8 {f : n8 → AH → Res} (hf : ∀ a, UpR (f a)) : ∀ n a, UpR (bg0 f n a)
 | 0, a, H, out, a', H', h => by simp only [bg0] at h; cases h
 | n + 1, a, H, out, a', H', h => by
  simp only [bg0] at h
  exact bi7 (fun o1 a1 H1 h1 => hf a H o1 a1 H1 h1) (bi8 hf n) h
theorem aS4 {has : Nat → Bool} {g : Nat → n8 → AH → Res} (hg : ∀ l a, UpR (g l a)) {H0 : AH} : ∀ (n : Nat) (r : Res) (out : Out) (a' : n8) (H' : AH), (∀ o1 a1 H1, r = some (o1, a1, H1) → H0.nx ≤ H1.nx) → P9 has g n r = some (out, a', H') → H0.nx ≤ H'.nx
 | 0, r, out, a', H', hr, h => by simp only [P9] at h; cases h
 | n + 1, r, out, a', H', hr, h => by
  simp only [P9] at h
  split at h
  ·rename_i l a1 H1
   split at h
   ·exact aS4 hg n _ out a' H' (fun o2 a2 H2 h2 => Nat.le_trans (hr _ _ _ rfl) (hg l a1 H1 o2 a2 H2 h2)) h
   ·exact hr _ _ _ h
  ·exact hr _ _ _ h
theorem B6 (hR : Up cr) (k : Nat) : ∀ (c : Code) (s : Option Nat) (a : n8), UpR (n7 E cp cr k s c a)
 | .skip, none, a, H, out, a', H', h => by
  simp only [n7] at h
  injection h with h; injection h with h1 h2; injection h2 with h2 h3; subst h3; exact Nat.le_refl _
 | .label l', none, a, H, out, a', H', h => by
  simp only [n7] at h
  injection h with h; injection h with h1 h2; injection h2 with h2 h3; subst h3; exact Nat.le_refl _
 | .label l', some l, a, H, out, a', H', h => by
  simp only [n7] at h
  split at h
  ·injection h with h; injection h with h1 h2; injection h2 with h2 h3; subst h3; exact Nat.le_refl _
  ·cases h
 | .region _ ops draw, none, a, H, out, a', H', h => by
  simp only [n7] at h
  exact aE7 hR h
 | .seq x y, none, a, H, out, a', H', h => by
  simp only [n7] at h
  exact bi7 (fun o1 a1 H1 h1 => B6 hR k x none a H o1 a1 H1 h1) (B6 hR k y none) h
 | .seq x y, some l, a, H, out, a', H', h => by
  simp only [n7] at h
  split at h
  ·exact bi7 (fun o1 a1 H1 h1 => B6 hR k x (some l) a H o1 a1 H1 h1) (B6 hR k y none) h
  ·exact B6 hR k y (some l) a H out a' H' h
 | .cond c x y, none, a, H, out, a', H', h => by
  simp only [n7] at h
  split at h
  ·exact B6 hR k x none a H out a' H' h
  ·exact B6 hR k y none a H out a' H' h
  ·cases h
 | .block id c, none, a, H, out, a', H', h => by
  simp only [n7] at h
  split at h
  ·rename_i id' a1 H1 h1
   have := B6 hR k c none a H _ a1 H1 h1
   split at h
   ·injection h with h; injection h with h1 h2; injection h2 with h2 h3; subst h3; exact this
   ·injection h with h; injection h with h1 h2; injection h2 with h2 h3; subst h3; exact this
  ·exact B6 hR k c none a H out a' H' h
 | .loop c, none, a, H, out, a', H', h => by
  simp only [n7] at h
  exact bi8 (B6 hR k c none) k a H out a' H' h
 | .exit id, none, a, H, out, a', H', h => by
  simp only [n7] at h
  injection h with h; injection h with h1 h2; injection h2 with h2 h3; subst h3; exact Nat.le_refl _
 | .goto l, none, a, H, out, a', H', h => by
  simp only [n7] at h
  injection h with h; injection h with h1 h2; injection h2 with h2 h3; subst h3; exact Nat.le_refl _
 | .ret, none, a, H, out, a', H', h => by
  simp only [n7] at h
  injection h with h; injection h with h1 h2; injection h2 with h2 h3; subst h3; exact Nat.le_refl _
 | .scope c, none, a, H, out, a', H', h => by
  simp only [n7] at h
  exact aS4 (fun l a => B6 hR k c (some l) a) k _ out a' H' (fun o1 a1 H1 h1 => B6 hR k c none a H o1 a1 H1 h1) h
 | .rangeFunc _ _ _ _, none, a, H, out, a', H', h => by simp only [n7] at h; cases h
 | .rangeFunc _ _ _ _, some _, a, H, out, a', H', h => by simp only [n7] at h; cases h
 | .skip, some _, a, H, out, a', H', h => by simp only [n7] at h; cases h
 | .region _ _ _, some _, a, H, out, a', H', h => by simp only [n7] at h; cases h
 | .cond _ _ _, some _, a, H, out, a', H', h => by simp only [n7] at h; cases h
 | .block _ _, some _, a, H, out, a', H', h => by simp only [n7] at h; cases h
 | .loop _, some _, a, H, out, a', H', h => by simp only [n7] at h; cases h
 | .exit _, some _, a, H, out, a', H', h => by simp only [n7] at h; cases h
 | .goto _, some _, a, H, out, a', H', h => by simp only [n7] at h; cases h
 | .ret, some _, a, H, out, a', H', h => by simp only [n7] at h; cases h
 | .scope _, some _, a, H, out, a', H', h => by simp only [n7] at h; cases h
theorem bi9 (hR : Up cr) {k : Nat} {f : FuncId} {args : List AV} {H H' : AH} (h : K0 E cp cr k f args H = some (v, H')) : H.nx ≤ H'.nx := by
 have res : ∀ {a : n8} {H1 : AH} {rs : List ResultVar}, ((m4 E.P a H1 rs).map fun vs => (ad3 vs, H1)) = some (v, H') → H' = H1 := fun {a H1 rs} h => by
  cases hs : m4 E.P a H1 rs with
  | none => rw [hs] at h; cases h
  | some vs =>
   rw [hs] at h
   simp only [Option.map_some] at h
   injection h with h; injection h with h1 h2
   exact h2.symm
 unfold K0 at h
 split at h
 ·cases h
 ·split at h
  ·split at h
   ·cases h
   ·rename_i c _
    split at h
    ·rename_i a1 H1 h1
     rw [res h]
     exact B6 hR k c none _ _ _ _ _ h1
    ·rename_i a1 H1 h1
     rw [res h]
     exact B6 hR k c none _ _ _ _ _ h1
    ·cases h
  ·cases h
theorem an1 {o : Oper} {a a' : n8} {H H' : AH} (ht : M6 E o ≤ 1) (h : P8 E cp cr st ops o a H = some (a', H')) : H' = H := by
 rw [aS0] at h
 cases hs : O0 E cp cr st ops o a H with
 | none => rw [hs] at h; cases h
 | some p =>
  obtain ⟨v, H1⟩ := p
  rw [hs] at h
  simp only [Option.map_some] at h
  injection h with h; injection h with _ h2
  obtain ⟨hw, hall⟩ := (ae7 (E := E) (st := st) (ops := ops) o a H).2 ht
  obtain ⟨D, hD⟩ := Q3 hall hs
  have e : D = fun _ => none := by
   funext t
   cases hd : D t with
   | none => rfl
   | some z => have := hD.w t z hd; rw [hw] at this; cases this
  subst e
  rw [← h2]
  exact hD.out
theorem an2 : ∀ {l : List Oper} {a a' : n8} {H H' : AH}, (∀ o ∈ l, M6 E o ≤ 1) → steps E cp cr st ops l a H = some (a', H') → H' = H
 | [], a, a', H, H', _, h => by
  simp only [steps] at h
  injection h with h; injection h with h1 h2; exact h2.symm
 | o :: l, a, a', H, H', ht, h => by
  simp only [steps] at h
  split at h
  ·rename_i a1 H1 hs
   have e1 := an1 (ht o (List.mem_cons_self ..)) hs
   have e2 := an2 (fun o ho => ht o (List.mem_cons_of_mem _ ho)) h
   rw [e2, e1]
  ·cases h
theorem ah2 : ∀ {l : List Oper} {a a' : n8} {H H' : AH} {fs : List FP}, (∀ o ∈ l, M6 E o ≤ 1) → E1 E cp cr st ops l a H = some (a', H', fs) → H' = H
 | [], a, a', H, H', fs, _, h => by
  simp only [E1] at h
  injection h with h; injection h with h1 h2; injection h2 with h2 h3; exact h2.symm
 | o :: l, a, a', H, H', fs, ht, h => by
  simp only [E1] at h
  split at h
  ·rename_i a1 H1 hs
   split at h
   ·rename_i a2 H2 fs' hr
    injection h with h; injection h with h1 h2; injection h2 with h2 h3
    have e1 := an1 (ht o (List.mem_cons_self ..)) hs
    have e2 := ah2 (fun o ho => ht o (List.mem_cons_of_mem _ ho)) hr
    rw [← h2, e2, e1]
   ·cases h
  ·cases h
theorem aE8 {draw : Bool} {a a' : n8} {H H' : AH} {out : Out} (ht : ∀ o ∈ ops.toList, M6 E o ≤ 1) (h : E2 E cp cr ops draw a H = some (out, a', H')) : H'.o = H.o := by
 have plain : ((steps E cp cr H.nx ops ops.toList a { H with nx := H.nx + 1 }).map fun p => (Out.normal, p.1, p.2)) = some (out, a', H') → H'.o = H.o := fun h => by
  cases hs : steps E cp cr H.nx ops ops.toList a { H with nx := H.nx + 1 } with
  | none => rw [hs] at h; cases h
  | some p =>
   rw [hs] at h
   simp only [Option.map_some] at h
   injection h with h; injection h with h1 h2; injection h2 with h2 h3
   have := an2 ht (show steps E cp cr H.nx ops ops.toList a { H with nx := H.nx + 1 } = some (p.1, p.2) from hs)
   rw [← h3, this]
 unfold E2 at h
 split at h
 ·exact plain h
 ·split at h
  ·exact plain h
  ·split at h
   ·rename_i a1 H1 fs hs
    split at h
    ·injection h with h; injection h with h1 h2; injection h2 with h2 h3
     have := ah2 ht hs
     rw [← h3, this]
    ·cases h
   ·cases h
  ·cases h
theorem D6 {k : Nat} : ∀ (c : Code) {a a' : n8} {H H' : AH} {out : Out}, w8 E c = true → n7 E cp cr k none c a H = some (out, a', H') → H'.o = H.o
 | .region id ops draw, a, a', H, H', out, hr, h => by
  simp only [n7] at h
  simp only [w8, List.all_eq_true, decide_eq_true_eq] at hr
  exact aE8 hr h
 | .seq x y, a, a', H, H', out, hr, h => by
  simp only [n7] at h
  simp only [w8, Bool.and_eq_true] at hr
  unfold bg5 at h
  split at h
  ·rename_i a1 H1 hx
   rw [D6 y hr.2 h, D6 x hr.1 hx]
  ·exact D6 x hr.1 h
 | .cond c x y, a, a', H, H', out, hr, h => by
  simp only [n7] at h
  simp only [w8, Bool.and_eq_true] at hr
  split at h
  ·exact D6 x hr.1 h
  ·exact D6 y hr.2 h
  ·cases h
 | .ret, a, a', H, H', out, _, h => by
  simp only [n7] at h
  injection h with h; injection h with h1 h2; injection h2 with h2 h3; rw [h3]
 | .skip, a, a', H, H', out, _, h => by
  simp only [n7] at h
  injection h with h; injection h with h1 h2; injection h2 with h2 h3; rw [h3]
 | .block _ _, _, _, _, _, _, hr, _ => by simp [w8] at hr
 | .loop _, _, _, _, _, _, hr, _ => by simp [w8] at hr
 | .scope _, _, _, _, _, _, hr, _ => by simp [w8] at hr
 | .label _, _, _, _, _, _, hr, _ => by simp [w8] at hr
 | .exit _, _, _, _, _, _, hr, _ => by simp [w8] at hr
 | .goto _, _, _, _, _, _, hr, _ => by simp [w8] at hr
 | .rangeFunc .., _, _, _, _, _, hr, _ => by simp [w8] at hr
theorem ae8 {k : Nat} {f : FuncId} {args : List AV} {H H' : AH} (hf : aC9 E f = true) (h : K0 E cp cr k f args H = some (v, H')) : H'.o = H.o := by
 have res : ∀ {a : n8} {H1 : AH} {rs : List ResultVar}, ((m4 E.P a H1 rs).map fun vs => (ad3 vs, H1)) = some (v, H') → H' = H1 := fun {a H1 rs} h => by
  cases hs : m4 E.P a H1 rs with
  | none => rw [hs] at h; cases h
  | some vs =>
   rw [hs] at h
   simp only [Option.map_some] at h
   injection h with h; injection h with h1 h2
   exact h2.symm
 unfold aC9 at hf
 unfold K0 at h
 split at h
 ·cases h
 ·rename_i fn hfn
  rw [hfn] at hf
  dsimp only at hf
  split at h
  ·split at h
   ·cases h
   ·rename_i c hc
    rw [hc] at hf
    dsimp only at hf
    split at h
    ·rename_i a1 H1 h1
     rw [res h]
     exact D6 c hf h1
    ·rename_i a1 H1 h1
     rw [res h]
     exact D6 c hf h1
    ·cases h
  ·cases h
theorem aS5 (E : Env) : ∀ n, Up (O5 E n).2
 | 0 => fun g as_ H v H' h => by simp only [O5] at h; cases h
 | n + 1 => fun g as_ H v H' h => by
  simp only [O5] at h
  split at h
  ·cases h
  ·rename_i hk
   refine ⟨bi9 (aS5 E n) h, fun hk' t _ => ?_⟩
   rw [hk'] at hk
   rw [ae8 (by simpa using hk) h]
end
end Go.Proofs.YtpmjpogcaglphaaDoor.A
namespace Go.Proofs.YtpmjpogcaglphaaDoor.A
open Go
section
variable {E : Env} {cp : F9} {cr : q8} {n nx0 : Nat} {T0 : Tag → Prop}
def aE9 : Out → Exit
 | .normal => .normal
 | .exit id => .exit id
 | .goto l => .goto l
 | .ret => .ret
structure Here (n nx0 : Nat) (T0 : Tag → Prop) (c : Ctx) (a : n8) (ca : Act) (H : AH) : Prop where
 inv : Inv c
 heap : c.H = H.o
 act : AR c a ca
 size : ca.tmps.size = n
 le : nx0 ≤ H.nx
 nx : ∀ t, c.T t → t.1 < H.nx
 old : ∀ t, c.T t → T0 t ∨ nx0 ≤ t.1
def Post (n nx0 : Nat) (T0 : Tag → Prop) (c : Ctx) (out : Out) (a' : n8) (H' : AH) : Exit → Act → World → Prop :=
 fun e ca' w' => e = aE9 out ∧ ∃ c', c'.w = w' ∧ Step c c' ∧ Here n nx0 T0 c' a' ca' H'
theorem Post.step {c c1 : Ctx} {out : Out} {a' : n8} {H' : AH} {e : Exit} {ca' : Act} {w' : World} (s : Step c c1) (h : Post n nx0 T0 c1 out a' H' e ca' w') : Post n nx0 T0 c out a' H' e ca' w' := by
 obtain ⟨h1, c', h2, h3, h4⟩ := h
 exact ⟨h1, c', h2, s.trans h3, h4⟩
def an3 (E : Env) (n nx0 : Nat) (T0 : Tag → Prop) (d : Code) (f : n8 → AH → Res) : Prop :=
 ∀ (c : Ctx) (a : n8) (ca : Act) (H : AH) (out : Out) (a' : n8) (H' : AH), Here n nx0 T0 c a ca H → f a H = some (out, a', H') → d.wp E.P (Post n nx0 T0 c out a' H') ca c.w
theorem aF0 {x y : Code} {f g : n8 → AH → Res} (hx : an3 E n nx0 T0 x f) (hy : an3 E n nx0 T0 y g) : an3 E n nx0 T0 (.seq x y) (fun a H => bg5 (f a H) g) := fun c a ca H out a' H' hh h => by
 simp only [bg5] at h
 split at h
 ·rename_i a1 H1 h1
  refine wp_seq (wp_mono (hx c a ca H .normal a1 H1 hh h1) ?_)
  rintro e ca1 w1 ⟨rfl, c1, rfl, s1, hh1⟩
  exact wp_mono (hy c1 a1 ca1 H1 out a' H' hh1 h) (fun e ca2 w2 h2 => h2.step s1)
 ·rename_i hnot
  refine wp_seq (wp_mono (hx c a ca H out a' H' hh h) ?_)
  intro e ca1 w1 hp
  have he := hp.1
  cases out with
  | normal => exact (hnot a' H' h).elim
  | exit id => subst he; exact hp
  | goto l => subst he; exact hp
  | ret => subst he; exact hp
theorem ba3 {d : Code} {f : n8 → AH → Res} (hd : an3 E n nx0 T0 d f) (k : Nat) : an3 E n nx0 T0 (.loop d) (bg0 f k) := fun c a ca H out a' H' hh h b aC4 cs => by
 have key : ∀ (m : Nat) (c : Ctx) (a : n8) (ca : Act) (H : AH), Here n nx0 T0 c a ca H → bg0 f m a H = some (out, a', H') →
   ∃ e ca' w', Post n nx0 T0 c out a' H' e ca' w' ∧ Arrives E.P (lone (b.at ca (.code d :: .inLoop d :: aC4)) cs c.w) b aC4 cs e ca' w' := by
  intro m
  induction m with
  | zero => intro c a ca H _ h; simp only [bg0] at h; cases h
  | succ m ih =>
   intro c a ca H hh h
   simp only [bg0] at h
   unfold bg5 at h
   split at h
   ·rename_i a1 H1 h1
    obtain ⟨e, ca1, w1, ⟨he, c1, rfl, s1, hh1⟩, harr⟩ := hd c a ca H .normal a1 H1 hh h1 b (.inLoop d :: aC4) cs
    subst he
    obtain ⟨e2, ca2, w2, hp, harr2⟩ := ih c1 a1 ca1 H1 hh1 h
    exact ⟨e2, ca2, w2, hp.step s1, .of_steps (Steps.trans harr (.one step_inLoop)) harr2⟩
   ·rename_i hnot
    obtain ⟨e, ca1, w1, hp, harr⟩ := hd c a ca H out a' H' hh h b (.inLoop d :: aC4) cs
    have he := hp.1
    cases out with
    | normal => exact (hnot a' H' h).elim
    | exit id => subst he; exact ⟨_, ca1, w1, hp, .pass (x := .inLoop d) rfl (fun _ _ => .inl (by simp [aE9])) harr⟩
    | goto l => subst he; exact ⟨_, ca1, w1, hp, .pass (x := .inLoop d) rfl (fun _ _ => .inl (by simp [aE9])) harr⟩
    | ret => subst he; exact ⟨_, ca1, w1, hp, .pass (x := .inLoop d) rfl (fun _ _ => .inl (by simp [aE9])) harr⟩
 obtain ⟨e, ca', w', hp, harr⟩ := key k c a ca H hh h
 exact ⟨e, ca', w', hp, .of_steps (.one step_loop) harr⟩
theorem aL7 {d : Code} {f : n8 → AH → Res} {g : Nat → n8 → AH → Res} (hd : an3 E n nx0 T0 d f) (hg : ∀ l rest, findLabel d l = some rest → an3 E n nx0 T0 rest (g l)) (k : Nat) :
  an3 E n nx0 T0 (.scope d) (fun a H => P9 (fun l => (findLabel d l).isSome) g k (f a H)) := fun c a ca H out a' H' hh h b aC4 cs => by
 have key : ∀ (m : Nat) (x : Code) (fx : n8 → AH → Res) (c : Ctx) (a : n8) (ca : Act) (H : AH), an3 E n nx0 T0 x fx → Here n nx0 T0 c a ca H → P9 (fun l => (findLabel d l).isSome) g m (fx a H) = some (out, a', H') →
   ∃ e ca' w', Post n nx0 T0 c out a' H' e ca' w' ∧ Arrives E.P (lone (b.at ca (.code x :: .inScope d :: aC4)) cs c.w) b aC4 cs e ca' w' := by
  intro m
  induction m with
  | zero => intro x fx c a ca H _ _ h; simp only [P9] at h; cases h
  | succ m ih =>
   intro x fx c a ca H hx hh h
   have done : fx a H = some (out, a', H') → (∀ l, out = .goto l → (findLabel d l).isSome = false) → ∃ e ca' w', Post n nx0 T0 c out a' H' e ca' w' ∧ Arrives E.P (lone (b.at ca (.code x :: .inScope d :: aC4)) cs c.w) b aC4 cs e ca' w' := fun h hl => by
    obtain ⟨e, ca1, w1, hp, harr⟩ := hx c a ca H out a' H' hh h b (.inScope d :: aC4) cs
    have he := hp.1
    cases out with
    | normal => subst he; exact ⟨.normal, ca1, w1, hp, Steps.trans harr (.one step_inScope)⟩
    | exit id => subst he; exact ⟨.exit id, ca1, w1, hp, fun k' hk => harr k' (by simp [exitTo, hk])⟩
    | goto l =>
     subst he
     refine ⟨.goto l, ca1, w1, hp, fun k' hk => harr k' ?_⟩
     have := hl l rfl
     cases hf : findLabel d l with
     | none => simp [gotoIn, hf, hk]
     | some r => rw [hf] at this; cases this
    | ret => subst he; exact ⟨.ret, ca1, w1, hp, harr⟩
   simp only [P9] at h
   split at h
   ·rename_i l a1 H1 h1
    split at h
    ·rename_i hl
     cases hf : findLabel d l with
     | none => rw [hf] at hl; cases hl
     | some rest =>
      obtain ⟨e, ca1, w1, ⟨he, c1, rfl, s1, hh1⟩, harr⟩ := hx c a ca H (.goto l) a1 H1 hh h1 b (.inScope d :: aC4) cs
      subst he
      obtain ⟨e2, ca2, w2, hp, harr2⟩ := ih rest (g l) c1 a1 ca1 H1 (hg l rest hf) hh1 h
      exact ⟨e2, ca2, w2, hp.step s1, .of_steps (harr _ (by simp [gotoIn, hf])) harr2⟩
    ·rename_i hl
     refine done h (fun l' e => ?_)
     rw [h1] at h
     injection h with h
     injection h with h2 h3
     rw [← h2] at e
     injection e with e
     rw [← e]
     simpa using hl
   ·rename_i hnot
    refine done h (fun l e => ?_)
    subst e
    exact (hnot l a' H' h).elim
 obtain ⟨e, ca', w', hp, harr⟩ := key k d f c a ca H hd hh h
 exact ⟨e, ca', w', hp, .of_steps (.one step_scope) harr⟩
def an4 (s : Option Nat) (c : Code) : Option Code :=
 match s with
 | none => some c
 | some l => findLabel c l
variable (hP : m7 E.P cp) (hX : m7 E.P E.ext) (hR : u9 E.P cr) (hm : E.P.follows .mixedOrders = true) (hU : Up cr)
include hP hX hR hm hU
theorem w7 (k : Nat) : ∀ (d : Code) (s : Option Nat) (rest : Code), A7 n d = true → an4 s d = some rest → an3 E n nx0 T0 rest (n7 E cp cr k s d)
 | .skip, none, rest, _, hs => fun c a ca H out a' H' hh h => by
  injection hs with hs; subst hs
  simp only [n7] at h
  injection h with h; injection h with h1 h2; injection h2 with h2 h3
  subst h1; subst h2; subst h3
  exact wp_skip ⟨rfl, c, rfl, Step.refl c, hh⟩
 | .label l', none, rest, _, hs => fun c a ca H out a' H' hh h => by
  injection hs with hs; subst hs
  simp only [n7] at h
  injection h with h; injection h with h1 h2; injection h2 with h2 h3
  subst h1; subst h2; subst h3
  exact wp_label ⟨rfl, c, rfl, Step.refl c, hh⟩
 | .label l', some l, rest, _, hs => fun c a ca H out a' H' hh h => by
  simp only [n7] at h
  split at h
  ·rename_i e
   subst e
   simp only [an4, findLabel, beq_self_eq_true, if_true] at hs
   injection hs with hs; subst hs
   injection h with h; injection h with h1 h2; injection h2 with h2 h3
   subst h1; subst h2; subst h3
   exact wp_skip ⟨rfl, c, rfl, Step.refl c, hh⟩
  ·cases h
 | .region id ops draw, none, rest, hdst, hs => fun c a ca H out a' H' hh h => by
  injection hs with hs; subst hs
  simp only [A7, Bool.and_eq_true] at hdst
  simp only [n7] at h
  have hle := aE7 hU h
  have hout : out = .normal := (ah1 (Q := fun _ _ _ => True) (id := id) (n := n) (nx0 := nx0) (T0 := T0) hU hP hX hR hm hdst.2 hdst.1 hh.inv hh.heap hh.act hh.size hh.le hh.nx hh.old h (fun _ _ _ _ _ _ _ _ _ => trivial)).1
  subst hout
  refine (ah1 hU hP hX hR hm hdst.2 hdst.1 hh.inv hh.heap hh.act hh.size hh.le hh.nx hh.old h (fun c' ca' i1 s1 e1 a1 z1 n1 o1 => ?_)).2
  exact ⟨rfl, c', rfl, s1, i1, e1, a1, z1, Nat.le_trans hh.le hle, n1, o1⟩
 | .seq x y, none, rest, hdst, hs => by
  injection hs with hs; subst hs
  simp only [A7, Bool.and_eq_true] at hdst
  have hx := w7 k x none x hdst.1 rfl
  have hy := w7 k y none y hdst.2 rfl
  intro c a ca H out a' H' hh h
  simp only [n7] at h
  exact aF0 hx hy c a ca H out a' H' hh h
 | .seq x y, some l, rest, hdst, hs => by
  simp only [A7, Bool.and_eq_true] at hdst
  have hy := w7 k y none y hdst.2 rfl
  intro c a ca H out a' H' hh h
  simp only [n7] at h
  simp only [an4, findLabel] at hs
  cases hf : findLabel x l with
  | none =>
   rw [hf] at hs h
   have hy' := w7 k y (some l) rest hdst.2 hs
   exact hy' c a ca H out a' H' hh h
  | some r =>
   rw [hf] at hs h
   injection hs with hs; subst hs
   have hx := w7 k x (some l) r hdst.1 hf
   exact aF0 hx hy c a ca H out a' H' hh h
 | .cond co x y, none, rest, hdst, hs => by
  injection hs with hs; subst hs
  simp only [A7, Bool.and_eq_true] at hdst
  have hx := w7 k x none x hdst.1 rfl
  have hy := w7 k y none y hdst.2 rfl
  intro c a ca H out a' H' hh h
  simp only [n7] at h
  split at h
  ·rename_i hc
   exact wp_cond_true (o9 hh.act hc).bool_ (hx c a ca H out a' H' hh h)
  ·rename_i hc
   exact wp_cond_false (o9 hh.act hc).bool_ (hy c a ca H out a' H' hh h)
  ·cases h
 | .block id x, none, rest, hdst, hs => by
  injection hs with hs; subst hs
  simp only [A7] at hdst
  have hx := w7 k x none x hdst rfl
  intro c a ca H out a' H' hh h
  simp only [n7] at h
  split at h
  ·rename_i id' a1 H1 h1
   refine wp_block (wp_mono (hx c a ca H _ a1 H1 hh h1) ?_)
   rintro e ca1 w1 ⟨rfl, c1, rfl, s1, hh1⟩
   simp only [aE9, Exit.inBlock]
   split at h
   ·rename_i e
    rw [if_pos e]
    injection h with h; injection h with h1 h2; injection h2 with h2 h3
    subst h1; subst h2; subst h3
    exact ⟨rfl, c1, rfl, s1, hh1⟩
   ·rename_i e
    rw [if_neg e]
    injection h with h; injection h with h1 h2; injection h2 with h2 h3
    subst h1; subst h2; subst h3
    exact ⟨rfl, c1, rfl, s1, hh1⟩
  ·rename_i hnot
   refine wp_block (wp_mono (hx c a ca H out a' H' hh h) ?_)
   intro e ca1 w1 hp
   have he := hp.1
   cases out with
   | normal => subst he; exact hp
   | exit id' => exact (hnot id' a' H' h).elim
   | goto l => subst he; exact hp
   | ret => subst he; exact hp
 | .loop x, none, rest, hdst, hs => by
  injection hs with hs; subst hs
  simp only [A7] at hdst
  have hx := w7 k x none x hdst rfl
  intro c a ca H out a' H' hh h
  simp only [n7] at h
  exact ba3 hx k c a ca H out a' H' hh h
 | .exit id, none, rest, _, hs => fun c a ca H out a' H' hh h => by
  injection hs with hs; subst hs
  simp only [n7] at h
  injection h with h; injection h with h1 h2; injection h2 with h2 h3
  subst h1; subst h2; subst h3
  exact wp_exit ⟨rfl, c, rfl, Step.refl c, hh⟩
 | .goto l, none, rest, _, hs => fun c a ca H out a' H' hh h => by
  injection hs with hs; subst hs
  simp only [n7] at h
  injection h with h; injection h with h1 h2; injection h2 with h2 h3
  subst h1; subst h2; subst h3
  exact wp_goto ⟨rfl, c, rfl, Step.refl c, hh⟩
 | .ret, none, rest, _, hs => fun c a ca H out a' H' hh h => by
  injection hs with hs; subst hs
  simp only [n7] at h
  injection h with h; injection h with h1 h2; injection h2 with h2 h3
  subst h1; subst h2; subst h3
  exact wp_ret ⟨rfl, c, rfl, Step.refl c, hh⟩
 | .scope x, none, rest, hdst, hs => by
  injection hs with hs; subst hs
  simp only [A7] at hdst
  have hx := w7 k x none x hdst rfl
  have hg : ∀ l r, findLabel x l = some r → an3 E n nx0 T0 r (n7 E cp cr k (some l) x) := fun l r hf => w7 k x (some l) r hdst hf
  intro c a ca H out a' H' hh h
  simp only [n7] at h
  exact aL7 hx hg k c a ca H out a' H' hh h
 | .refuse _, none, rest, _, hs => fun c a ca H out a' H' hh h => by simp only [n7] at h; cases h
 | .refuse _, some _, rest, _, hs => fun c a ca H out a' H' hh h => by simp only [n7] at h; cases h
 | .rangeFunc _ _ _ _, none, rest, _, hs => fun c a ca H out a' H' hh h => by simp only [n7] at h; cases h
 | .rangeFunc _ _ _ _, some _, rest, _, hs => fun c a ca H out a' H' hh h => by simp only [n7] at h; cases h
 | .skip, some _, rest, _, hs => fun c a ca H out a' H' hh h => by simp only [n7] at h; cases h
 | .region _ _ _, some _, rest, _, hs => fun c a ca H out a' H' hh h => by simp only [n7] at h; cases h
 | .cond _ _ _, some _, rest, _, hs => fun c a ca H out a' H' hh h => by simp only [n7] at h; cases h
 | .block _ _, some _, rest, _, hs => fun c a ca H out a' H' hh h => by simp only [n7] at h; cases h
 | .loop _, some _, rest, _, hs => fun c a ca H out a' H' hh h => by simp only [n7] at h; cases h
 | .exit _, some _, rest, _, hs => fun c a ca H out a' H' hh h => by simp only [n7] at h; cases h
 | .goto _, some _, rest, _, hs => fun c a ca H out a' H' hh h => by simp only [n7] at h; cases h
 | .ret, some _, rest, _, hs => fun c a ca H out a' H' hh h => by simp only [n7] at h; cases h
 | .scope _, some _, rest, _, hs => fun c a ca H out a' H' hh h => by simp only [n7] at h; cases h
end
end Go.Proofs.YtpmjpogcaglphaaDoor.A
namespace Go.Proofs.YtpmjpogcaglphaaDoor.A
open Go
section
variable {P : Program} {c : Ctx} {a : n8} {ca : Act} {H : AH}
def S9 (ca : Act) : ResultVar → Sem Value
 | .tmp t => pure (ca.tmps.getD t undef)
 | .cell ad t => do loadVar t (← asAddr (ca.tmps.getD ad undef))
theorem aL8 (hI : Inv c) (hH : c.H = H.o) (hA : AR c a ca) {r : ResultVar} {v : AV} (h : X9 P a H r = some v) : ∃ cv, (S9 ca r).run P c.w = .ok cv c.w ∧ VR c v cv := by
 cases r with
 | tmp t =>
  simp only [X9] at h
  injection h with h; subst h
  exact ⟨_, rfl, hA.slot t⟩
 | cell ad t =>
  simp only [X9] at h
  have hs := hA.slot ad
  obtain ⟨cv, h1, h2⟩ := aD0 hI hH hs h
  have : ∃ ax, ca.tmps.getD ad undef = .pointer (some ax) := by
   unfold N4 at h
   split at h
   ·rename_i k g off e
    rw [e] at hs
    obtain ⟨_, _, ax, e2, _⟩ := hs.ptr_
    exact ⟨ax, e2⟩
   ·rename_i cs e
    rw [e] at hs
    obtain ⟨ax, e2, _⟩ := hs.fptr_
    exact ⟨ax, e2⟩
   ·cases h
  obtain ⟨ax, e⟩ := this
  refine ⟨cv, ?_, h2⟩
  rw [e] at h1
  simp only [S9, e]
  simpa [Instr.loadAt, Instr.sureAddr, asAddr] using h1
theorem ah3 (hI : Inv c) (hH : c.H = H.o) (hA : AR c a ca) : ∀ {rs : List ResultVar} {vs : List AV}, m4 P a H rs = some vs → ∃ cvs, (rs.mapM (m := Sem) (S9 ca)).run P c.w = .ok cvs c.w ∧ LR (VR c) vs cvs
 | [], vs, h => by
  simp only [m4] at h
  injection h with h; subst h
  exact ⟨[], rfl, LR.nil⟩
 | r :: rs, vs, h => by
  simp only [m4] at h
  split at h
  ·rename_i v vs' hv hvs
   injection h with h; subst h
   obtain ⟨cv, h1, h2⟩ := aL8 hI hH hA hv
   obtain ⟨cvs, h3, h4⟩ := ah3 hI hH hA hvs
   refine ⟨cv :: cvs, ?_, LR.cons h2 h4⟩
   simp only [List.mapM_cons, Sem.run_bind, h1, Result.andThen_ok, h3, Sem.run_pure]
  ·cases h
theorem aL9 (hI : Inv c) (hH : c.H = H.o) (hA : AR c a ca) {fn : Func} {vs : List AV} (h : m4 P a H fn.results.toList = some vs) : ∃ cv, (results fn ca.tmps).run P c.w = .ok cv c.w ∧ VR c (ad3 vs) cv := by
 obtain ⟨cvs, h1, h2⟩ := ah3 hI hH hA h
 have hm : (fn.results.mapM (m := Sem) (S9 ca)).run P c.w = .ok cvs.toArray c.w := by
  rw [Array.mapM_eq_mapM_toList, Sem.run_map, h1]
  rfl
 have hf : results fn ca.tmps = (do let vs ← fn.results.mapM (m := Sem) (S9 ca); pure (if h : vs.size = 1 then vs[0] else .tuple vs)) := by
  unfold results
  congr 2
 refine ⟨if h : cvs.toArray.size = 1 then cvs.toArray[0] else .tuple cvs.toArray, ?_, ?_⟩
 ·rw [hf, Sem.run_bind, hm, Result.andThen_ok]
  rfl
 ·match vs, cvs, h2 with
  | [v], [cv], h2 => exact h2.2 0 v cv rfl rfl
  | [], [], h2 => exact .tup [] #[] rfl (fun j x u hx => by simp at hx)
  | v :: v2 :: vs, cv :: cv2 :: cvs, h2 =>
   rw [dif_neg (by simp)]
   exact .tup _ _ (by simpa using h2.1) (fun j x u hx hu => h2.2 j x u hx (by simpa using hu))
  | [], cv :: cvs, h2 => have := h2.1; simp at this
  | v :: vs, [], h2 => have := h2.1; simp at this
  | [v], cv :: cv2 :: cvs, h2 => have := h2.1; simp at this
  | v :: v2 :: vs, [cv], h2 => have := h2.1; simp at this
theorem bj0 {args : List AV} {cargs : List Value} {n : Nat} (h : LR (VR c) args cargs) : AR c (y0 args) { tmps := cargs.toArray ++ Array.replicate (n - cargs.toArray.size) undef, defers := [] } := by
 refine ⟨rfl, fun t => ?_⟩
 simp only [y0, Array.getD_eq_getD_getElem?]
 by_cases ht : t < args.length
 ·have ht' : t < cargs.length := by rw [h.1]; exact ht
  have : (cargs.toArray ++ Array.replicate (n - cargs.toArray.size) undef)[t]? = some cargs[t] := by
   rw [Array.getElem?_append_left (by simpa using ht')]
   simp [ht']
  rw [this, List.getElem?_eq_getElem ht]
  exact h.2 t _ _ (List.getElem?_eq_getElem ht) (List.getElem?_eq_getElem ht')
 ·have h1 : args[t]? = none := List.getElem?_eq_none (by omega)
  rw [h1]
  have : ((cargs.toArray ++ Array.replicate (n - cargs.toArray.size) undef)[t]?).getD undef = undef := by
   rw [Array.getElem?_append_right (by simp [h.1]; omega), Array.getElem?_replicate]
   split <;> rfl
  rw [this]
  exact VR.noV_ c
theorem ba4 {fn : Func} {f : FuncId} (hf : P.funcs[f]? = some fn) (h : cy0 fn = true) : N9 P f ∧ ∃ d, fn.body = some d ∧ A7 fn.ntmps d = true := by
 unfold cy0 at h
 simp only [Bool.and_eq_true, Bool.not_eq_true'] at h
 cases hb : fn.body with
 | none => rw [hb] at h; cases h.2
 | some d =>
  rw [hb] at h
  exact ⟨⟨fn, hf, h.1, by simp [hb]⟩, d, rfl, h.2⟩
theorem V9 {E : Env} {cp : F9} {cr : q8} (hP : m7 E.P cp) (hX : m7 E.P E.ext) (hR : u9 E.P cr) (hm : E.P.follows .mixedOrders = true) (hU : Up cr) {k : Nat} {f : FuncId} {args : List AV} {H H' : AH} {v : AV} (h : K0 E cp cr k f args H = some (v, H')) :
  N9 E.P f ∧ H.nx ≤ H'.nx ∧ ∀ (c : Ctx) (cargs : List Value), Inv c → c.H = H.o → (∀ t, c.T t → t.1 < H.nx) → LR (VR c) args cargs → Calls E.P f cargs.toArray c.w (bK3 c H.nx H'.nx H'.o v) := by
 have hle := bi9 hU h
 unfold K0 at h
 split at h
 ·cases h
 ·rename_i fn hfn
  split at h
  ·rename_i hok
   simp only [Bool.and_eq_true, decide_eq_true_eq] at hok
   obtain ⟨hE, d, hd, hdst⟩ := ba4 hfn hok.1
   refine ⟨hE, hle, fun c cargs hI hH hT hargs => ?_⟩
   rw [hd] at h
   dsimp only at h
   have hlen : cargs.length ≤ fn.ntmps := by rw [hargs.1]; exact hok.2
   have here : Here fn.ntmps H.nx c.T c (y0 args) { tmps := cargs.toArray ++ Array.replicate (fn.ntmps - cargs.toArray.size) undef, defers := [] } H :=
    ⟨hI, hH, bj0 hargs, by simp; omega, Nat.le_refl _, hT, fun t ht => .inl ht⟩
   have fin : ∀ {out : Out} {a1 : n8} {H1 : AH}, (out = .normal ∨ out = .ret) → n7 E cp cr k none d (y0 args) H = some (out, a1, H1) → ((m4 E.P a1 H1 fn.results.toList).map fun vs => (ad3 vs, H1)) = some (v, H') → Calls E.P f cargs.toArray c.w (bK3 c H.nx H'.nx H'.o v) := fun {out a1 H1} ho he hr => by
    cases hrs : m4 E.P a1 H1 fn.results.toList with
    | none => rw [hrs] at hr; cases hr
    | some vs =>
     rw [hrs] at hr
     simp only [Option.map_some] at hr
     injection hr with hr; injection hr with h1 h2
     subst h1; subst h2
     refine calls_of_wp hfn hd (wp_mono (w7 (n := fn.ntmps) (nx0 := H.nx) (T0 := c.T) hP hX hR hm hU k d none d hdst rfl c _ _ H out a1 H1 here he) ?_)
     rintro e ca1 w1 ⟨rfl, c1, rfl, s1, hh1⟩
     obtain ⟨cv, hres, hv⟩ := aL9 hh1.inv hh1.heap hh1.act hrs
     have hret : bK3 c H.nx H1.nx H1.o (ad3 vs) (.returned cv) c1.w := ⟨cv, c1, rfl, rfl, hh1.inv, s1, hh1.heap, hv, fun t ht => (hh1.old t ht).imp id (fun h => ⟨h, hh1.nx t ht⟩)⟩
     rcases ho with rfl | rfl
     ·exact ⟨hh1.act.defers, cv, hres, hret⟩
     ·exact ⟨hh1.act.defers, cv, hres, hret⟩
   split at h
   ·rename_i a1 H1 he
    exact fin (.inl rfl) he h
   ·rename_i a1 H1 he
    exact fin (.inr rfl) he h
   ·cases h
  ·cases h
def Ctx.data (S : Nat → Prop) (w : World) : Ctx := { S := S, φ := fun _ => 0, H := fun _ => none, T := fun _ => False, w := w }
theorem aS6 {S : Nat → Prop} {w : World} (h : ∀ b, S b → b < w.heap.size) (hg : Gl S w) : Inv (Ctx.data S w) :=
 ⟨h, fun k r hr => (by cases hr), fun k es hes => (by cases hes), fun k k' hk => (by obtain ⟨o, ho, _⟩ := hk; cases ho), hg⟩
theorem an5 (E : Env) (hX : m7 E.P E.ext) (hm : E.P.follows .mixedOrders = true) : ∀ n, m7 E.P (O5 E n).1 ∧ u9 E.P (O5 E n).2
 | 0 => ⟨fun g args r h => (by simp only [O5] at h; cases h), fun g args H v H' h => (by simp only [O5] at h; cases h)⟩
 | n + 1 => by
  obtain ⟨hP, hR⟩ := an5 E hX hm n
  have hU := aS5 E n
  refine ⟨fun g args r h => ?_, fun g args H v H' h => ?_⟩
  ·simp only [O5] at h
   cases hb : K0 E (O5 E n).1 (O5 E n).2 (n + 1) g args aC8 with
   | none => rw [hb] at h; cases h
   | some p =>
    obtain ⟨v, H'⟩ := p
    rw [hb] at h
    simp only [Option.map_some] at h
    injection h with h
    subst h
    obtain ⟨hE, _, hc⟩ := V9 hP hX hR hm hU hb
    refine ⟨hE, fun S w cargs ha hS hG => ?_⟩
    refine (hc (Ctx.data S w) cargs (aS6 hS hG) rfl (fun t ht => ht.elim) (ha.weak fun x u _ h => .data x u h)).mono ?_
    rintro e w' ⟨u, c', rfl, rfl, hi, hs, hH, hv, _⟩
    obtain ⟨i2, s2⟩ := Z9 hi (b9 c'.H n6 v)
    have s3 := hs.trans s2
    have dead : ∀ k, ¬ aj2 (Ctx.data S w) k := fun k hk => by obtain ⟨o, ho, _⟩ := hk; cases ho
    refine ⟨u, (c'.shut (b9 c'.H n6 v)).S, rfl, ⟨hs.os, hs.tape, hs.output, hs.size, fun b hb => hs.keep b hb (fun k hk => (dead k hk).elim)⟩, ?_, s3.mono.S, fun b hb => ⟨?_, i2.imm b hb⟩⟩
    ·rw [← hH]
     exact V6 hi _ s2.mono.S n6 v u hv (fun k rr hk hrow => .inr ⟨k, rr, hk, hrow, rfl⟩)
    ·rcases s3.Snew b hb with h1 | h1 | ⟨k, hk, _⟩
     ·exact .inl h1
     ·exact .inr h1
     ·exact (dead k hk).elim
  ·simp only [O5] at h
   split at h
   ·cases h
   exact V9 hP hX hR hm hU h
end
end Go.Proofs.YtpmjpogcaglphaaDoor.A
namespace Go.Proofs.YtpmjpogcaglphaaDoor.A
open Go
def Shaped (P : Program) : Nat → TypeId → List AV → Prop
 | 0, _, _ => False
 | d + 1, t, xs =>
  match P.underlying t with
  | some .bool => ∃ b, xs = [.bool b]
  | some (.int k) => ∃ n, xs = [.int k n] ∧ (Lit.int k n).wf = true
  | some .string => ∃ s, xs = [.str s] ∧ s.length ≤ maxLen
  | some (.slice e) => ∃ parts : List (List AV), xs = [.sl parts.length parts.flatten] ∧ parts.length ≤ maxLen ∧ ∀ p ∈ parts, Shaped P d e p
  | some (.struct fs) => ∃ parts : List (List AV), xs = parts.flatten ∧ parts.length = fs.size ∧ ∀ (i : Nat) (f : Field) (p : List AV), fs[i]? = some f → parts[i]? = some p → Shaped P d f.type p
  | some (.array n e) => ∃ parts : List (List AV), xs = parts.flatten ∧ parts.length = n ∧ ∀ p ∈ parts, Shaped P d e p
  | _ => xs = [.und]
def Old (w : World) (b : Nat) : Prop := b < w.heap.size
def CR (w : World) (x : AV) (u : Value) : Prop := PR (Old w) w x u ∧ u.oneCell' = true
theorem LR.take {R : AV → Value → Prop} {xs : List AV} {vs : List Value} (h : LR R xs vs) (n : Nat) : LR R (xs.take n) (vs.take n) := by
 refine ⟨by simp [h.1], fun j x u hx hu => ?_⟩
 have hj : j < n := by
  have := (List.getElem?_eq_some_iff.1 hx).1
  simp at this
  omega
 rw [List.getElem?_take_of_lt hj] at hx hu
 exact h.2 j x u hx hu
theorem aS7 {α β : Type} {f : α → Option β} : ∀ {l : List α} {ys : List β}, l.mapM f = some ys → ys.length = l.length ∧ ∀ (i : Nat) (x : α), l[i]? = some x → ∃ y, ys[i]? = some y ∧ f x = some y
 | [], ys, h => by
  simp at h
  subst h
  exact ⟨rfl, fun i x hx => by simp at hx⟩
 | a :: l, ys, h => by
  rw [List.mapM_cons] at h
  cases ha : f a with
  | none => rw [ha] at h; cases h
  | some y =>
   cases hl : l.mapM f with
   | none => rw [ha, hl] at h; cases h
   | some zs =>
    rw [ha, hl] at h
    have : ys = y :: zs := by
     have h' : some (y :: zs) = some ys := h
     injection h' with h'
     exact h'.symm
    subst this
    obtain ⟨h1, h2⟩ := aS7 hl
    refine ⟨by simp [h1], fun i x hx => ?_⟩
    cases i with
    | zero => simp at hx; subst hx; exact ⟨y, rfl, ha⟩
    | succ i => simp at hx; simpa using h2 i x hx
theorem K3 {α β : Type} {Q : Nat → α → β → Prop} : ∀ (l : List α) (k : Nat), (∀ (i : Nat) (x : α), l[i]? = some x → ∃ y, Q (k + i) x y) → ∃ ys : List β, ys.length = l.length ∧ ∀ (i : Nat) (x : α) (y : β), l[i]? = some x → ys[i]? = some y → Q (k + i) x y
 | [], k, _ => ⟨[], rfl, fun i x y hx => by simp at hx⟩
 | a :: l, k, h => by
  obtain ⟨y, hy⟩ := h 0 a rfl
  obtain ⟨ys, h1, h2⟩ := K3 l (k + 1) (fun i x hx => by
   have := h (i + 1) x (by simpa using hx)
   rwa [show k + (i + 1) = k + 1 + i by omega] at this)
  refine ⟨y :: ys, by simp [h1], fun i x z hx hz => ?_⟩
  cases i with
  | zero => simp at hx hz; subst hx; subst hz; exact hy
  | succ i =>
   simp at hx hz
   have := h2 i x z hx hz
   rwa [show k + 1 + i = k + (i + 1) by omega] at this
theorem au9 {R : AV → Value → Prop} {sz : Nat} : ∀ {parts : List (List AV)} {vs : List (List Value)}, parts.length = vs.length → (∀ (i : Nat) p v, parts[i]? = some p → vs[i]? = some v → LR R p v ∧ v.length = sz) → LR R parts.flatten vs.flatten ∧ vs.flatten.length = parts.length * sz
 | [], [], _, _ => ⟨LR.nil, by simp⟩
 | p :: parts, v :: vs, hl, h => by
  obtain ⟨h1, h2⟩ := au9 (parts := parts) (vs := vs) (by simpa using hl) (fun i p v hp hv => h (i + 1) p v (by simpa using hp) (by simpa using hv))
  obtain ⟨h3, h4⟩ := h 0 p v rfl rfl
  refine ⟨h3.append h1, ?_⟩
  simp only [List.flatten_cons, List.length_append, h4, h2, List.length_cons, Nat.add_mul]
  omega
 | [], _ :: _, hl, _ => by simp at hl
 | _ :: _, [], hl, _ => by simp at hl
theorem an6 {R : AV → Value → Prop} : ∀ {parts : List (List AV)} {sizes : List Nat} {cs : List Value}, parts.length = sizes.length → cs.length = sizes.sum → (∀ (i : Nat) p n, parts[i]? = some p → sizes[i]? = some n → LR R p ((cs.drop (sizes.take i).sum).take n)) → LR R parts.flatten cs
 | [], [], cs, _, hs, _ => by
  have : cs = [] := List.eq_nil_of_length_eq_zero (by simpa using hs)
  subst this
  exact LR.nil
 | p :: parts, n :: sizes, cs, hl, hs, h => by
  have h0 := h 0 p n rfl rfl
  simp at h0 hs
  have := an6 (R := R) (parts := parts) (sizes := sizes) (cs := cs.drop n) (by simpa using hl) (by simp; omega) (fun i p' n' hp hn => by
   have := h (i + 1) p' n' (by simpa using hp) (by simpa using hn)
   simpa [List.drop_drop] using this)
  have e : cs = cs.take n ++ cs.drop n := (List.take_append_drop n cs).symm
  rw [e]
  exact h0.append this
 | [], _ :: _, _, hl, _, _ => by simp at hl
 | _ :: _, [], _, hl, _, _ => by simp at hl
section
variable {H : Type} {enc : TypeId × Value → H} {P : Program} {w : World} {base : Nat} {sp : Nat → Bool} {held : Bool}
theorem aF1 {a : Addr} {n : Nat} {cs : List Value} (h : w.cells? base a n = some cs) : cs.length = n ∧ ∀ i v, cs[i]? = some v → w.cell? (a.add i) = some v := by
 unfold World.cells? at h
 split at h
 ·obtain ⟨h1, h2⟩ := aS7 h
  rw [List.length_range] at h1
  refine ⟨h1, fun i v hv => ?_⟩
  have hi : i < n := by have := (List.getElem?_eq_some_iff.1 hv).1; omega
  obtain ⟨y, hy, hf⟩ := h2 i i (by simp [hi])
  rw [hv] at hy
  injection hy with hy
  rw [hf, ← hy]
 ·cases h
theorem by9 {a : Addr} {v : Value} (h : w.cell? a = some v) : Old w a.block := by
 unfold World.cell? at h
 split at h
 ·rename_i cells e m hb
  exact (Array.getElem?_eq_some_iff.1 hb).1
 ·cases h
theorem aM0 {e : TypeId} {a : Addr} {n cap : Nat} (hn : n ≤ cap) {parts : List (List AV)} (hl : parts.length = n) (h : ∀ (i : Nat) p, parts[i]? = some p → ∃ cs, w.cells? base (a.add (i * P.cellsOf e)) (P.cellsOf e) = some cs ∧ LR (CR w) p cs) :
  CR w (.sl n parts.flatten) (.slice (some a) n cap) := by
 obtain ⟨vs, hv1, hv2⟩ := K3 (Q := fun i p cs => w.cells? base (a.add (i * P.cellsOf e)) (P.cellsOf e) = some cs ∧ LR (CR w) p cs) parts 0 (fun i p hp => by simpa using h i p hp)
 simp only [Nat.zero_add] at hv2
 have hlr := au9 (R := CR w) (sz := P.cellsOf e) hv1.symm (fun i p v hp hv => ⟨(hv2 i p v hp hv).2, (aF1 (hv2 i p v hp hv).1).1⟩)
 have hcell : ∀ (k : Nat) (l : List (List Value)), (∀ i cs, l[i]? = some cs → w.cells? base (a.add ((k + i) * P.cellsOf e)) (P.cellsOf e) = some cs) → ∀ j u, l.flatten[j]? = some u → w.cell? (a.add (k * P.cellsOf e + j)) = some u := fun k l => by
  induction l generalizing k with
  | nil => intro _ j u hu; simp at hu
  | cons cs l ih =>
   intro hc j u hu
   obtain ⟨c1, c2⟩ := aF1 (hc 0 cs rfl)
   rw [List.flatten_cons] at hu
   by_cases hj : j < cs.length
   ·rw [List.getElem?_append_left hj] at hu
    have := c2 j u hu
    rw [aK5] at this
    simpa using this
   ·rw [List.getElem?_append_right (by omega)] at hu
    have := ih (k + 1) (fun i cs' hi => by
     have := hc (i + 1) cs' (by simpa using hi)
     rwa [show k + (i + 1) = k + 1 + i by omega] at this) _ u hu
    rw [c1] at this
    rw [c1] at hj
    rwa [show (k + 1) * P.cellsOf e + (j - P.cellsOf e) = k * P.cellsOf e + j by rw [Nat.add_mul]; omega] at this
 have hcells := hcell 0 vs (fun i cs hi => by
  have hi' : i < parts.length := by have := (List.getElem?_eq_some_iff.1 hi).1; omega
  simpa using (hv2 i _ cs (List.getElem?_eq_getElem hi') hi).1)
 have hval : ∀ j x, parts.flatten[j]? = some x → ∃ u, vs.flatten[j]? = some u ∧ w.cell? (a.add j) = some u ∧ CR w x u := fun j x hx => by
  have hj : j < vs.flatten.length := by have := (List.getElem?_eq_some_iff.1 hx).1; rw [hlr.1.1]; exact this
  refine ⟨_, List.getElem?_eq_getElem hj, ?_, hlr.1.2 j x _ hx (List.getElem?_eq_getElem hj)⟩
  simpa using hcells j _ (List.getElem?_eq_getElem hj)
 have hget : ∀ j x, parts.flatten[j]? = some x → vs.flatten.getD j undef = (vs.flatten[j]?).getD undef := fun j x _ => by simp [List.getD_eq_getElem?_getD]
 refine ⟨.sl n _ (some a) cap (fun j => vs.flatten.getD j undef) hn (fun _ => ⟨a, rfl⟩) (fun hne => ⟨a, rfl, ?_⟩) (fun a' j x ha hx => ?_) (fun j x hx => ?_) (fun j x hx => ?_), rfl⟩
 ·obtain ⟨x, hx⟩ := List.exists_mem_of_ne_nil _ hne
  obtain ⟨j, hj⟩ := List.getElem?_of_mem hx
  obtain ⟨u, _, hu, _⟩ := hval j x hj
  have := by9 hu
  rwa [S4] at this
 ·injection ha with ha
  subst ha
  obtain ⟨u, h1, h2, _⟩ := hval j x hx
  rw [hget j x hx, h1]
  exact h2
 ·obtain ⟨u, h1, _, h2⟩ := hval j x hx
  rw [hget j x hx, h1]
  exact h2.2
 ·obtain ⟨u, h1, _, h2⟩ := hval j x hx
  rw [hget j x hx, h1]
  exact h2.1
def aa5 (P : Program) (ks : List TypeId) : Bool :=
 ks.all fun t => decide (t < P.types.size) && match P.underlying t with
  | some .bool => true
  | some (.int _) => true
  | some .string => true
  | some (.slice e) => ks.contains e
  | some (.struct fs) => fs.toList.all fun f => ks.contains f.type
  | some (.array _ e) => ks.contains e
  | _ => false
theorem av0 (hl : laidOutB P = true) {ks : List TypeId} (hk : aa5 P ks = true) : ∀ (d : Nat) (t : TypeId) (cs : List Value) (r : DataW H × List MemPlace), t ∈ ks → DataW.trod enc P w base sp held d t cs = some r → ∃ xs, Shaped P d t xs ∧ LR (CR w) xs cs
 | 0, t, cs, r, _, h => by simp [DataW.trod] at h
 | d + 1, t, cs, r, ht, h => by
  have IH := av0 hl hk d
  have one : ∀ {x : AV} {v : Value}, CR w x v → LR (CR w) [x] [v] := fun h => LR.cons h LR.nil
  have hkt := List.all_eq_true.1 hk t ht
  simp only [Bool.and_eq_true, decide_eq_true_eq] at hkt
  obtain ⟨hlt, hkt⟩ := hkt
  unfold Shaped
  split at hkt
  ·rename_i hu
   obtain ⟨b, rfl, _⟩ := DataW.trod_bool hu h
   try simp only [hu]
   exact ⟨_, ⟨b, rfl⟩, one ⟨.bool b, rfl⟩⟩
  ·rename_i k hu
   obtain ⟨n, rfl, _, hw⟩ := DataW.trod_int hu h
   try simp only [hu]
   exact ⟨_, ⟨n, rfl, hw⟩, one ⟨.int k n, rfl⟩⟩
  ·rename_i hu
   obtain ⟨s, rfl, _, hw⟩ := DataW.trod_string hu h
   try simp only [hu]
   refine ⟨_, ⟨s.data.toList, rfl, by simpa using hw⟩, one ⟨?_, rfl⟩⟩
   have := PR.str (S := Old w) (w := w) s.data.toList
   simpa using this
  ·rename_i e hu
   try simp only [hu]
   rcases DataW.trod_slice hu h with ⟨rfl, _⟩ | ⟨a, len, cap, elems, rest, n, hn, rfl, _, _, hlc, hcm, hel, hget, _⟩
   ·refine ⟨[.sl 0 []], ⟨[], rfl, by simp, fun p hp => by cases hp⟩, one ⟨?_, rfl⟩⟩
    exact .sl 0 [] none 0 (fun _ => undef) (Nat.le_refl _) (fun h => by omega) (fun h => absurd rfl h) (fun a j x _ hx => by simp at hx) (fun j x hx => by simp at hx) (fun j x hx => by simp at hx)
   ·obtain rfl : n = d := by omega
    have hpart : ∀ (i : Nat) (y : DataW H × List MemPlace), elems[i]? = some y → ∃ p : List AV, Shaped P n e p ∧ ∃ cs, w.cells? base (a.add (i * P.cellsOf e)) (P.cellsOf e) = some cs ∧ LR (CR w) p cs := fun i y hy => by
     have hi : i < len := by have := (List.getElem?_eq_some_iff.1 hy).1; omega
     have := hget i hi
     rw [hy] at this
     cases hc : w.cells? base (a.add (i * P.cellsOf e)) (P.cellsOf e) with
     | none => rw [hc] at this; cases this
     | some cs =>
      rw [hc] at this
      obtain ⟨xs, h1, h2⟩ := IH e cs y (by simpa using hkt) this
      exact ⟨xs, h1, cs, rfl, h2⟩
    obtain ⟨parts, hp1, hp2⟩ := K3 (Q := fun i _ p => Shaped P n e p ∧ ∃ cs, w.cells? base (a.add (i * P.cellsOf e)) (P.cellsOf e) = some cs ∧ LR (CR w) p cs) elems 0 (fun i y hy => by simpa using hpart i y hy)
    simp only [Nat.zero_add] at hp2
    have hpl : parts.length = len := by omega
    have hel' : ∀ (i : Nat) p, parts[i]? = some p → ∃ y, elems[i]? = some y := fun i p hp => by
     have hi : i < elems.length := by have := (List.getElem?_eq_some_iff.1 hp).1; omega
     exact ⟨_, List.getElem?_eq_getElem hi⟩
    refine ⟨_, ⟨parts, rfl, by omega, fun p hp => ?_⟩, one ?_⟩
    ·obtain ⟨i, hi⟩ := List.getElem?_of_mem hp
     obtain ⟨y, hy⟩ := hel' i p hi
     exact (hp2 i y p hy hi).1
    ·have := aM0 (base := base) hlc hpl (fun i p hp => by
      obtain ⟨y, hy⟩ := hel' i p hp
      exact (hp2 i y p hy hp).2)
     rwa [hpl]
  ·rename_i fs hu
   try simp only [hu]
   obtain ⟨xs, n, hn, _, hcl, hxl, hget⟩ := DataW.trod_struct hu h
   obtain rfl : n = d := by omega
   obtain ⟨k1, k2, k3⟩ := kid_struct hl hlt hu
   have hmem : ∀ (i : Nat) (f : Field), fs.toList[i]? = some f → f.type ∈ ks := fun i f hf => by
    have := List.all_eq_true.1 hkt f (List.mem_of_getElem? hf)
    simpa using this
   obtain ⟨parts, hp1, hp2⟩ := K3 (Q := fun i (f : Field) p => Shaped P n f.type p ∧ LR (CR w) p ((cs.drop f.offset).take (P.cellsOf f.type))) fs.toList 0 (fun i f hf => by
    have hf' : fs[i]? = some f := by simpa using hf
    have hg := hget i f hf'
    have hi : i < xs.length := by have := (List.getElem?_eq_some_iff.1 hf).1; simp at this; omega
    rw [List.getElem?_eq_getElem hi] at hg
    obtain ⟨p, q1, q2⟩ := IH f.type _ _ (hmem i f hf) hg
    exact ⟨p, q1, q2⟩)
   refine ⟨_, ⟨parts, rfl, by simpa using hp1, fun i f p hf hp => (hp2 i f p (by simpa using hf) hp).1⟩, ?_⟩
   refine an6 (sizes := fs.toList.map fun f => P.cellsOf f.type) (by simpa using hp1) (by rw [hcl, k2]) (fun i p m hp hm => ?_)
   rw [List.getElem?_map] at hm
   cases hf : fs.toList[i]? with
   | none => rw [hf] at hm; cases hm
   | some f =>
    rw [hf] at hm
    simp only [Option.map_some, Option.some.injEq] at hm
    subst hm
    have := (hp2 i f p hf hp).2
    rw [k3 i f hf] at this
    rw [← List.map_take]
    exact this
  ·rename_i n e hu
   try simp only [hu]
   obtain ⟨xs, m, hm, _, hcl, hxl, hget⟩ := DataW.trod_array hu h
   obtain rfl : m = d := by omega
   obtain ⟨k1, k2⟩ := kid_array hl hlt hu
   obtain ⟨parts, hp1, hp2⟩ := K3 (Q := fun i (_ : Nat) p => Shaped P m e p ∧ LR (CR w) p ((cs.drop (i * P.cellsOf e)).take (P.cellsOf e))) (List.range n) 0 (fun i j hj => by
    have hi : i < n := by have := (List.getElem?_eq_some_iff.1 hj).1; simpa using this
    have hg := hget i hi
    rw [List.getElem?_eq_getElem (by omega)] at hg
    obtain ⟨p, q1, q2⟩ := IH e _ _ (by simpa using hkt) hg
    exact ⟨p, q1, by simpa using q2⟩)
   simp only [Nat.zero_add, List.length_range] at hp1 hp2
   have hp3 : ∀ (i : Nat) p, parts[i]? = some p → Shaped P m e p ∧ LR (CR w) p ((cs.drop (i * P.cellsOf e)).take (P.cellsOf e)) := fun i p hp => by
    have hi : i < n := by have := (List.getElem?_eq_some_iff.1 hp).1; omega
    exact hp2 i i p (by simp [hi]) hp
   refine ⟨_, ⟨parts, rfl, hp1, fun p hp => ?_⟩, ?_⟩
   ·obtain ⟨i, hi⟩ := List.getElem?_of_mem hp
    exact (hp3 i p hi).1
   ·refine an6 (sizes := List.replicate n (P.cellsOf e)) (by simpa using hp1) (by rw [hcl, k2]; simp) (fun i p q hp hq => ?_)
    have hi : i < n := by have := (List.getElem?_eq_some_iff.1 hp).1; omega
    have hq' : q = P.cellsOf e := (List.mem_replicate.1 (List.mem_of_getElem? hq)).2
    subst hq'
    have := (hp3 i p hp).2
    have e1 : ((List.replicate n (P.cellsOf e)).take i).sum = i * P.cellsOf e := by
     rw [List.take_replicate, Nat.min_eq_left (Nat.le_of_lt hi), List.sum_replicate_nat]
    rw [e1]
    exact this
  ·cases hkt
def aM1 (P : Program) (t : TypeId) (x : AV) : Prop :=
 match P.underlying t with
 | some (.struct _) => ∃ d xs, x = .agg xs ∧ Shaped P d t xs
 | some (.array _ _) => ∃ d xs, x = .agg xs ∧ Shaped P d t xs
 | _ => ∃ d, Shaped P d t [x]
theorem bj1 (hl : laidOutB P = true) {ks : List TypeId} (hk : aa5 P ks = true) {t : TypeId} (ht : t ∈ ks) {v : Value} {r : Reach} {b0 : Nat} {dd : DataW H} {ps : List MemPlace} (hval : Value.okWide P w r b0 t v) (h : DataW.Trod enc P w base sp held t v dd ps) : ∃ x, aM1 P t x ∧ PR (Old w) w x v := by
 obtain ⟨d, h⟩ := h
 obtain ⟨xs, h1, h2⟩ := av0 hl hk d t _ _ ht h
 have hkt := List.all_eq_true.1 hk t ht
 simp only [Bool.and_eq_true, decide_eq_true_eq] at hkt
 obtain ⟨_, hkt⟩ := hkt
 have plain : v.cells = #[v] → ∃ x, Shaped P d t [x] ∧ PR (Old w) w x v := fun e => by
  rw [e] at h2
  match xs, h2, h1 with
  | [x], h2, h1 => exact ⟨x, h1, (h2.2 0 x v rfl rfl).1⟩
  | [], h2, _ => have := h2.1; simp at this
  | _ :: _ :: _, h2, _ => have := h2.1; simp at this
 have aggs : ∀ {cs : Array Value}, v = .agg cs → ∃ x, (∃ d xs, x = .agg xs ∧ Shaped P d t xs) ∧ PR (Old w) w x v := fun {cs} e => by
  subst e
  refine ⟨.agg xs, ⟨d, xs, rfl, h1⟩, .agg xs cs (by simpa [Value.cells] using h2.1) (fun j x u hx hu => ?_) (fun j u hu => ?_)⟩
  ·exact (h2.2 j x u hx (by simpa [Value.cells] using hu)).1
  ·have hj : j < xs.length := by
    have := (Array.getElem?_eq_some_iff.1 hu).1
    have h3 := h2.1
    simp [Value.cells] at h3
    omega
   exact (h2.2 j _ u (List.getElem?_eq_getElem hj) (by simpa [Value.cells] using hu)).2
 unfold aM1
 split at hkt
 ·rename_i hu
  simp only [hu]
  obtain ⟨b, rfl⟩ := WideShapes.okWide_bool hu hval
  obtain ⟨x, q1, q2⟩ := plain rfl
  exact ⟨x, ⟨d, q1⟩, q2⟩
 ·rename_i k hu
  simp only [hu]
  obtain ⟨b, rfl⟩ := WideShapes.okWide_int hu hval
  obtain ⟨x, q1, q2⟩ := plain rfl
  exact ⟨x, ⟨d, q1⟩, q2⟩
 ·rename_i hu
  simp only [hu]
  obtain ⟨b, rfl⟩ := WideShapes.okWide_string hu hval
  obtain ⟨x, q1, q2⟩ := plain rfl
  exact ⟨x, ⟨d, q1⟩, q2⟩
 ·rename_i e hu
  simp only [hu]
  obtain ⟨a, l, c, rfl⟩ := WideShapes.okWide_slice hu hval
  obtain ⟨x, q1, q2⟩ := plain rfl
  exact ⟨x, ⟨d, q1⟩, q2⟩
 ·rename_i fs hu
  simp only [hu]
  simp only [Value.okWide, hu] at hval
  obtain ⟨cs, e, _⟩ := hval
  exact aggs e
 ·rename_i n e hu
  simp only [hu]
  simp only [Value.okWide, hu] at hval
  obtain ⟨cs, e, _⟩ := hval
  exact aggs e
 ·cases hkt
def bj2 (P : Program) : List TypeId → List AV → Prop
 | [], [] => True
 | t :: ts, x :: xs => aM1 P t x ∧ bj2 P ts xs
 | _, _ => False
theorem av1 (hl : laidOutB P = true) {ks : List TypeId} (hk : aa5 P ks = true) {r : Reach} {b0 : Nat} : ∀ {ts : List TypeId} {vs : List Value} {ds : List (DataW H)} {ps : List MemPlace}, (∀ t ∈ ts, t ∈ ks) → (∀ (j : Nat) t v, ts[j]? = some t → vs[j]? = some v → Value.okWide P w r b0 t v) →
  DataW.TrodAll enc P w base sp held ts vs ds ps → ∃ xs, bj2 P ts xs ∧ LR (PR (Old w) w) xs vs
 | [], [], [], ps, _, _, _ => ⟨[], trivial, LR.nil⟩
 | t :: ts, v :: vs, d :: ds, ps, hm, hv, h => by
  obtain ⟨p, q, h1, h2, _⟩ := h
  obtain ⟨x, a1, a2⟩ := bj1 hl hk (hm t (List.mem_cons_self ..)) (hv 0 t v rfl rfl) h1
  obtain ⟨xs, b1, b2⟩ := av1 hl hk (fun t ht => hm t (List.mem_cons_of_mem _ ht)) (fun j t v ht hv' => hv (j + 1) t v (by simpa using ht) (by simpa using hv')) h2
  exact ⟨x :: xs, ⟨a1, b1⟩, LR.cons a2 b2⟩
 | [], _ :: _, _, _, _, _, h => h.elim
 | [], [], _ :: _, _, _, _, h => h.elim
 | _ :: _, [], _, _, _, _, h => h.elim
 | _ :: _, _ :: _, [], _, _, _, h => h.elim
theorem an7 (hl : laidOutB P = true) {w' : World} (hb : RowKit.Below w.heap.size w w') {sp' : Nat → Bool} : ∀ {ts : List TypeId} {vs : List Value} {ds : List (DataW H)} {ps : List MemPlace}, (∀ t ∈ ts, P.readableRec t = true ∧ t < P.types.size) → (∀ x ∈ ps, x.block < w.heap.size) → (∀ x ∈ ps, sp' x.block = true) →
  DataW.TrodAll enc P w 0 (fun _ => true) true ts vs ds ps → DataW.TrodAll enc P w' 0 sp' true ts vs ds ps
 | [], [], [], ps, _, _, _, h => h
 | t :: ts, v :: vs, d :: ds, ps, hm, hp, hs, h => by
  obtain ⟨p, q, h1, h2, rfl⟩ := h
  obtain ⟨m1, m2⟩ := hm t (List.mem_cons_self ..)
  exact ⟨p, q, WideElems.Trod_stays hl m1 m2 h1 (fun x hx => hb.same (hp x (List.mem_append_left _ hx))) (fun x hx => hs x (List.mem_append_left _ hx)), an7 hl hb (fun t ht => hm t (List.mem_cons_of_mem _ ht)) (fun x hx => hp x (List.mem_append_right _ hx)) (fun x hx => hs x (List.mem_append_right _ hx)) h2, rfl⟩
 | [], _ :: _, _, _, _, _, _, h => h.elim
 | [], [], _ :: _, _, _, _, _, h => h.elim
 | _ :: _, [], _, _, _, _, _, h => h.elim
 | _ :: _, _ :: _, [], _, _, _, _, h => h.elim
end
end Go.Proofs.YtpmjpogcaglphaaDoor.A
namespace Go.Proofs.YtpmjpogcaglphaaDoor.A
open Go
open Go Go.ChangeShapes
theorem bz0 {H : Type} {enc : TypeId × Value → H} {P : Program} {f : Func} {s : ChangeSpec} {apart fresh handsOn again : Bool} {W W' : World} {args : Array Value} {ds gs : List (DataW H)} {before : List MemPlace} {tb : TypeId} (hl : laidOutB P = true)
  (hW : DataW.Whole enc P f.params.toList s.vars apart W args.toList ds gs before) (hv : s.vars = []) (hr : f.resultTypes = #[tb]) (htb : P.underlying tb = some .bool) (hfn : (s.fn H (ds ++ gs)).results = [.lit (.bool true)] ∧ (s.fn H (ds ++ gs)).args = ds ∧ (s.fn H (ds ++ gs)).vars = [])
  (hts : ∀ t ∈ f.params.toList, P.readableRec t = true ∧ t < P.types.size) (hb : RowKit.Below W.heap.size W W') : s.post enc P f apart fresh handsOn again W args (.bool true) W' := by
 obtain ⟨f1, f2, f3⟩ := hfn
 have hlt : ∀ p ∈ before, p.block < W.heap.size := fun p hp => hW.lt p hp
 have hWc := hW
 obtain ⟨p, q, hA, hV, rfl, hz, hn⟩ := hW
 have hgq : gs = [] ∧ q = [] := by
  rw [hv] at hV
  exact trodVars_none hV
 obtain ⟨rfl, rfl⟩ := hgq
 have hargs : ∀ sp : Nat → Bool, (∀ x ∈ p, sp x.block = true) → DataW.TrodAll enc P W' 0 sp true f.params.toList args.toList ds p := fun sp hsp => by
  exact an7 hl hb hts (fun x hx => hlt x (List.mem_append_left _ hx)) hsp hA
 have hres : ∀ (b : Nat) (sp : Nat → Bool) (hd : Bool), DataW.TrodAll enc P W' b sp hd f.resultTypes.toList ((Value.bool true).resultList f.resultTypes.size) [.lit (.bool true)] [] := fun b sp hd => by
  rw [hr]
  exact trodAll_mk1 (RowKit.shut_bool htb true)
 refine ⟨ds, [], p ++ [], [], p, [], hWc, by rw [f1]; exact hres _ _ _, by rw [f2]; exact hargs _ (fun x hx => by simpa using hlt x (List.mem_append_left _ hx)), by rw [hv, f3]; rfl, World.keptBut_mono (fun x hx => ⟨hx, ?_⟩) (hb.frame (· ∈ p ++ [])), fun _ => ?_⟩
 ·exact .inr (.inl (by simpa using hx))
 ·refine ⟨RowKit.ok_one hr rfl (RowKit.okWide_bool_mk htb true), _, [], ([] ++ p) ++ [], ⟨[] ++ p, [], trodAll_append (hargs _ (fun _ _ => rfl)) (hres _ _ _), by rw [hv]; rfl, rfl, ?_, ?_⟩, ?_⟩
  ·intro b off hp
   have hm : MemPlace.cell b off ∈ p ++ [] := by simpa using hp
   rw [hb.frozen (p := ⟨b, off, none⟩) (hlt _ hm)]
   exact hz b off hm
  ·intro ha
   have := hn ha
   simpa using this
  ·intro x hx _
   simpa using hx
theorem ah4 {H : Type} {enc : TypeId × Value → H} {P : Program} {w : World} {base : Nat} {sp : Nat → Bool} {held : Bool} : ∀ {ts : List TypeId} {vs : List Value} {ds : List (DataW H)} {ps : List MemPlace}, DataW.TrodAll enc P w base sp held ts vs ds ps → ds.length = ts.length
 | [], [], [], _, _ => rfl
 | _ :: _, _ :: _, _ :: _, _, ⟨_, _, _, h, _⟩ => by simp [ah4 h]
 | [], _ :: _, _, _, h => h.elim
 | [], [], _ :: _, _, h => h.elim
 | _ :: _, [], _, _, h => h.elim
 | _ :: _, _ :: _, [], _, h => h.elim
end Go.Proofs.YtpmjpogcaglphaaDoor.A
namespace Go.Proofs.YtpmjpogcaglphaaDoor.A
open Go
section
variable (E : Env) (cp : F9) (cr : q8) (k : Nat) (nz : Nat → Option (List (Nat × Nat)))
def X3 (st : Nat) (ops : Array Oper) (need : Nat → Bool) : Nat → List Oper → n8 → AH → Option (n8 × AH × List FP)
 | _, [], a, H => some (a, H, [])
 | i, o :: l, a, H => match P8 E cp cr st ops o a H with
  | some (a', H') => match X3 st ops need (i + 1) l a' H' with
   | some (a'', H'', fs) => some (a'', H'', (match need i with | true => z8 E st ops o a H | false => FP.none_) :: fs)
   | none => none
  | none => none
def G0 (prs : List (Nat × Nat)) (i : Nat) : Bool :=
 match prs with
 | [] => false
 | (a, b) :: l => Nat.beq a i || Nat.beq b i || G0 l i
theorem aF2 (st : Nat) (ops : Array Oper) (need : Nat → Bool) : ∀ (l : List Oper) (i : Nat) (a : n8) (H : AH), match E1 E cp cr st ops l a H with
  | some (a', H', fs) => ∃ gs, X3 E cp cr st ops need i l a H = some (a', H', gs) ∧ gs.length = fs.length ∧ ∀ j, need (i + j) = true → gs[j]? = fs[j]?
  | none => X3 E cp cr st ops need i l a H = none
 | [], i, a, H => ⟨[], rfl, rfl, fun j _ => rfl⟩
 | o :: l, i, a, H => by
  unfold E1 X3
  cases hs : P8 E cp cr st ops o a H with
  | none => rfl
  | some p =>
   obtain ⟨a1, H1⟩ := p
   have ih := aF2 st ops need l (i + 1) a1 H1
   dsimp only
   cases hf : E1 E cp cr st ops l a1 H1 with
   | none =>
    rw [hf] at ih
    dsimp only at ih ⊢
    rw [ih]
   | some q =>
    obtain ⟨a2, H2, fs⟩ := q
    rw [hf] at ih
    obtain ⟨gs, h1, h2, h3⟩ := ih
    dsimp only
    rw [h1]
    refine ⟨_, rfl, by simp [h2], fun j hj => ?_⟩
    cases j with
    | zero =>
     have : need i = true := by simpa using hj
     simp [this]
    | succ j =>
     simp only [List.getElem?_cons_succ]
     exact h3 j (by rw [← hj]; congr 1; omega)
theorem ba5 {prs : List (Nat × Nat)} {fs gs : List FP} (hg : ∀ j, G0 prs j = true → gs[j]? = fs[j]?) : I0 gs prs = I0 fs prs := by
 unfold I0
 have key : ∀ l : List (Nat × Nat), (∀ p ∈ l, G0 prs p.1 = true ∧ G0 prs p.2 = true) → (l.all fun (i, j) => match gs[i]?, gs[j]? with | some x, some y => aC3 x y | _, _ => false) = l.all fun (i, j) => match fs[i]?, fs[j]? with | some x, some y => aC3 x y | _, _ => false := fun l => by
  induction l with
  | nil => exact fun _ => rfl
  | cons p l ih =>
   intro h
   obtain ⟨i, j⟩ := p
   obtain ⟨h1, h2⟩ := h (i, j) (List.mem_cons_self ..)
   simp only [List.all_cons]
   rw [ih (fun p hp => h p (List.mem_cons_of_mem _ hp)), hg i h1, hg j h2]
 have mem : ∀ (l : List (Nat × Nat)) (p : Nat × Nat), p ∈ l → G0 l p.1 = true ∧ G0 l p.2 = true := fun l => by
  induction l with
  | nil => intro p hp; cases hp
  | cons q l ih =>
   intro p hp
   obtain ⟨a, b⟩ := q
   simp only [G0, Bool.or_eq_true, Nat.beq_eq_true_eq]
   rcases List.mem_cons.1 hp with h | h
   ·subst h; exact ⟨.inl (.inl (Nat.beq_refl a)), .inl (.inr (Nat.beq_refl b))⟩
   ·exact ⟨.inr (ih p h).1, .inr (ih p h).2⟩
 exact key prs (mem prs)
def ay4 (prs : Option (List (Nat × Nat))) (ops : Array Oper) (a : n8) (H : AH) : Res :=
 match prs with
 | none => (steps E cp cr H.nx ops ops.toList a { H with nx := H.nx + 1 }).map fun p => (.normal, p.1, p.2)
 | some prs => match X3 E cp cr H.nx ops (G0 prs) 0 ops.toList a { H with nx := H.nx + 1 } with
  | some (a', H', fs) => if I0 fs prs then some (.normal, a', H') else none
  | none => none
def y4 : Option Nat → Code → n8 → AH → Res
 | none, .skip, a, H => some (.normal, a, H)
 | none, .label _, a, H => some (.normal, a, H)
 | some l, .label l', a, H => if l' = l then some (.normal, a, H) else none
 | none, .region id ops draw, a, H => ay4 E cp cr (match draw with | true => nz id | false => none) ops a H
 | none, .seq x y, a, H => bg5 (y4 none x a H) (y4 none y)
 | some l, .seq x y, a, H =>
  if (findLabel x l).isSome then bg5 (y4 (some l) x a H) (y4 none y)
  else y4 (some l) y a H
 | none, .cond c x y, a, H => match opd a c with
  | some (.bool true) => y4 none x a H
  | some (.bool false) => y4 none y a H
  | _ => none
 | none, .block id c, a, H => match y4 none c a H with
  | some (.exit id', a', H') => if id' = id then some (.normal, a', H') else some (.exit id', a', H')
  | r => r
 | none, .loop c, a, H => bg0 (y4 none c) k a H
 | none, .exit id, a, H => some (.exit id, a, H)
 | none, .goto l, a, H => some (.goto l, a, H)
 | none, .ret, a, H => some (.ret, a, H)
 | none, .scope c, a, H => P9 (fun l => (findLabel c l).isSome) (fun l => y4 (some l) c) k (y4 none c a H)
 | _, _, _, _ => none
def I2 : Code → Bool
 | .region id ops true => match S0 E ops, nz id with
  | some [], none => true
  | some (p :: prs), some prs' => (p :: prs) == prs'
  | _, _ => false
 | .seq a b => I2 a && I2 b
 | .cond _ a b => I2 a && I2 b
 | .block _ c => I2 c
 | .loop c => I2 c
 | .scope c => I2 c
 | _ => true
theorem D5 : ∀ (c : Code) (s : Option Nat), I2 E nz c = true → ∀ a H, y4 E cp cr k nz s c a H = n7 E cp cr k s c a H
 | .region id ops draw, none, h, a, H => by
  simp only [y4, n7, E2, ay4]
  cases draw with
  | false => rfl
  | true =>
   simp only [I2] at h
   split at h
   ·rename_i h1 h2
    simp only [h1, h2]
   ·rename_i p prs prs' h1 h2
    have e : p :: prs = prs' := by simpa using h
    subst e
    simp only [h1, h2]
    have key := aF2 E cp cr H.nx ops (G0 (p :: prs)) ops.toList 0 a { o := H.o, nx := H.nx + 1 }
    cases hf : E1 E cp cr H.nx ops ops.toList a { o := H.o, nx := H.nx + 1 } with
    | none =>
     rw [hf] at key
     dsimp only at key
     rw [key]
    | some q =>
     obtain ⟨a', H', fs⟩ := q
     rw [hf] at key
     obtain ⟨gs, h3, _, h4⟩ := key
     rw [h3]
     dsimp only
     rw [ba5 (fun j hj => h4 j (by simpa using hj))]
   ·cases h
 | .seq x y, none, h, a, H => by
  simp only [I2, Bool.and_eq_true] at h
  simp only [y4, n7]
  rw [D5 x none h.1, show y4 E cp cr k nz none y = n7 E cp cr k none y from funext fun a => funext fun H => D5 y none h.2 a H]
 | .seq x y, some l, h, a, H => by
  simp only [I2, Bool.and_eq_true] at h
  simp only [y4, n7]
  rw [D5 x (some l) h.1, D5 y (some l) h.2, show y4 E cp cr k nz none y = n7 E cp cr k none y from funext fun a => funext fun H => D5 y none h.2 a H]
 | .cond c x y, none, h, a, H => by
  simp only [I2, Bool.and_eq_true] at h
  simp only [y4, n7]
  rw [D5 x none h.1, D5 y none h.2]
  rfl
 | .block id c, none, h, a, H => by
  simp only [I2] at h
  simp only [y4, n7]
  rw [D5 c none h]
  rfl
 | .loop c, none, h, a, H => by
  simp only [I2] at h
  simp only [y4, n7]
  rw [show y4 E cp cr k nz none c = n7 E cp cr k none c from funext fun a => funext fun H => D5 c none h a H]
 | .scope c, none, h, a, H => by
  simp only [I2] at h
  simp only [y4, n7]
  rw [D5 c none h, show (fun l => y4 E cp cr k nz (some l) c) = fun l => n7 E cp cr k (some l) c from funext fun l => funext fun a => funext fun H => D5 c (some l) h a H]
 | .skip, none, _, _, _ => rfl
 | .label _, none, _, _, _ => rfl
 | .label _, some _, _, _, _ => rfl
 | .exit _, none, _, _, _ => rfl
 | .goto _, none, _, _, _ => rfl
 | .ret, none, _, _, _ => rfl
 | .rangeFunc _ _ _ _, none, _, _, _ => rfl
 | .rangeFunc _ _ _ _, some _, _, _, _ => rfl
 | .refuse _, none, _, _, _ => rfl
 | .refuse _, some _, _, _, _ => rfl
 | .skip, some _, _, _, _ => rfl
 | .region _ _ _, some _, _, _, _ => rfl
 | .cond _ _ _, some _, _, _, _ => rfl
 | .block _ _, some _, _, _, _ => rfl
 | .loop _, some _, _, _, _ => rfl
 | .exit _, some _, _, _, _ => rfl
 | .goto _, some _, _, _, _ => rfl
 | .ret, some _, _, _, _ => rfl
 | .scope _, some _, _, _, _ => rfl
end
def ar9 (E : Env) (cr : q8) (k : Nat) (nz : Nat → Option (List (Nat × Nat))) (fn : Func) (args : List AV) (H : AH) : Option (AV × AH) :=
 match fn.body with
 | none => none
 | some c => match y4 E (fun _ _ => none) cr k nz none c (y0 args) H with
  | some (.normal, a, H') => (m4 E.P a H' fn.results.toList).map fun vs => (ad3 vs, H')
  | some (.ret, a, H') => (m4 E.P a H' fn.results.toList).map fun vs => (ad3 vs, H')
  | _ => none
def f7 (E : Env) (nz : Nat → Option (List (Nat × Nat))) (n : Nat) (fn : Func) : Bool :=
 cy0 fn && decide (n ≤ fn.ntmps) && match fn.body with | some c => I2 E nz c | none => false
theorem aa6 {E : Env} {cr : q8} {k : Nat} {nz : Nat → Option (List (Nat × Nat))} {fn : Func} {f : FuncId} {args : List AV} {H : AH} (hf : E.P.funcs[f]? = some fn) (hl : f7 E nz args.length fn = true) : K0 E (fun _ _ => none) cr k f args H = ar9 E cr k nz fn args H := by
 unfold f7 at hl
 simp only [Bool.and_eq_true] at hl
 unfold K0 ar9
 rw [hf]
 dsimp only
 rw [if_pos (by simp [hl.1.1, hl.1.2])]
 cases hb : fn.body with
 | none => rfl
 | some c =>
  rw [hb] at hl
  dsimp only
  rw [D5 _ _ _ _ _ c none hl.2]
  rfl
def Ok (P : Program) (f : FuncId) (args : List AV) (r : AV) : Prop := N9 P f ∧ ∀ (S : Nat → Prop) (w : World) (cargs : List Value), LR (PR S w) args cargs → (∀ b, S b → b < w.heap.size) → Gl S w → Calls P f cargs.toArray w (cS9 S w r)
theorem A8 (P : Program) : m7 P (fun _ _ => none) := fun g args r h => by cases h
theorem cg4 {E : Env} {cr : q8} (hX : m7 E.P E.ext) (hR : u9 E.P cr) (hU : Up cr) (hm : E.P.follows .mixedOrders = true) {k : Nat} {nz : Nat → Option (List (Nat × Nat))} {fn : Func} {f : FuncId} {args : List AV} {v : AV} {H' : AH} (hf : E.P.funcs[f]? = some fn)
  (hl : f7 E nz args.length fn = true) (h : ar9 E cr k nz fn args aC8 = some (v, H')) : Ok E.P f args (view H'.o n6 v) := by
 rw [← aa6 hf hl] at h
 obtain ⟨hE, _, hc⟩ := V9 (A8 E.P) hX hR hm hU h
 refine ⟨hE, fun S w cargs ha hS hG => ?_⟩
 refine (hc (Ctx.data S w) cargs (aS6 hS hG) rfl (fun t ht => ht.elim) (ha.weak fun x u _ h => .data x u h)).mono ?_
 rintro e w' ⟨u, c', rfl, rfl, hi, hs, hH, hv, _⟩
 obtain ⟨i2, s2⟩ := Z9 hi (b9 c'.H n6 v)
 have s3 := hs.trans s2
 have dead : ∀ k, ¬ aj2 (Ctx.data S w) k := fun k hk => by obtain ⟨o, ho, _⟩ := hk; cases ho
 refine ⟨u, (c'.shut (b9 c'.H n6 v)).S, rfl, ⟨hs.os, hs.tape, hs.output, hs.size, fun b hb => hs.keep b hb (fun k hk => (dead k hk).elim)⟩, ?_, s3.mono.S, fun b hb => ⟨?_, i2.imm b hb⟩⟩
 ·rw [← hH]
  exact V6 hi _ s2.mono.S n6 v u hv (fun k rr hk hrow => .inr ⟨k, rr, hk, hrow, rfl⟩)
 ·rcases s3.Snew b hb with h1 | h1 | ⟨k, hk, _⟩
  ·exact .inl h1
  ·exact .inr h1
  ·exact (dead k hk).elim
def OkR (P : Program) (f : FuncId) (args : List AV) (H : AH) (v : AV) (H' : AH) : Prop := N9 P f ∧ H.nx ≤ H'.nx ∧ ∀ (c : Ctx) (cargs : List Value), Inv c → c.H = H.o → (∀ t, c.T t → t.1 < H.nx) → LR (VR c) args cargs → Calls P f cargs.toArray c.w (bK3 c H.nx H'.nx H'.o v)
theorem K4 {E : Env} {cr : q8} (hX : m7 E.P E.ext) (hR : u9 E.P cr) (hU : Up cr) (hm : E.P.follows .mixedOrders = true) {k : Nat} {nz : Nat → Option (List (Nat × Nat))} {fn : Func} {f : FuncId} {args : List AV} {v : AV} {H H' : AH} (hf : E.P.funcs[f]? = some fn)
  (hl : f7 E nz args.length fn = true) (h : ar9 E cr k nz fn args H = some (v, H')) : OkR E.P f args H v H' := by
 rw [← aa6 hf hl] at h
 exact V9 (A8 E.P) hX hR hm hU h
theorem aS8 {E : Env} (hX : m7 E.P E.ext) (hm : E.P.follows .mixedOrders = true) {n : Nat} {f : FuncId} {args : List AV} {r : AV} (h : (O5 E n).1 f args = some r) : Ok E.P f args r := (an5 E hX hm n).1 f args r h
abbrev Tab := List (FuncId × (List AV → Option AV))
def p4 (t : Tab) (f : FuncId) (args : List AV) : Option AV :=
 match t with
 | [] => none
 | (g, c) :: t => if f = g then c args else p4 t f args
theorem p9 (P : Program) : m7 P (p4 []) := fun g args r h => by cases h
theorem k0 {P : Program} {t : Tab} {g : FuncId} {c : List AV → Option AV} (ht : m7 P (p4 t)) (h : ∀ args r, c args = some r → Ok P g args r) : m7 P (p4 ((g, c) :: t)) := fun f args r hr => by
 simp only [p4] at hr
 split at hr
 ·rename_i e; subst e; exact h args r hr
 ·exact ht f args r hr
abbrev cT0 := List (FuncId × (List AV → AH → Option (AV × AH)))
def p5 (t : cT0) (f : FuncId) (args : List AV) (H : AH) : Option (AV × AH) :=
 match t with
 | [] => none
 | (g, c) :: t => if f = g then c args H else p5 t f args H
theorem G7 (P : Program) : u9 P (p5 []) ∧ Up (p5 []) := ⟨fun g args H v H' h => (by cases h), fun g args H v H' h => (by cases h)⟩
theorem m9 {P : Program} {t : cT0} {g : FuncId} {c : List AV → AH → Option (AV × AH)} (ht : u9 P (p5 t) ∧ Up (p5 t)) (h : ∀ args H v H', c args H = some (v, H') → OkR P g args H v H')
  (hk : aC7 g = true → ∀ args H v H', c args H = some (v, H') → ∀ t : Tag, t.1 < H.nx → H'.o t = H.o t := by exact fun h => absurd h (by decide)) : u9 P (p5 ((g, c) :: t)) ∧ Up (p5 ((g, c) :: t)) := by
 refine ⟨fun f args H v H' hr => ?_, fun f args H v H' hr => ?_⟩
 ·simp only [p5] at hr
  split at hr
  ·rename_i e; subst e; exact h args H v H' hr
  ·exact ht.1 f args H v H' hr
 ·simp only [p5] at hr
  split at hr
  ·rename_i e; subst e; exact ⟨(h args H v H' hr).2.1, fun hg => hk hg args H v H' hr⟩
  ·exact ht.2 f args H v H' hr
end Go.Proofs.YtpmjpogcaglphaaDoor.A
namespace Go.Proofs.YtpmjpogcaglphaaDoor.A
open Go
def sl : Code → Code
 | .seq a _ => a
 | c => c
section
variable (E : Env) (cp : F9) (cr : q8) (k : Nat) (nz : Nat → Option (List (Nat × Nat)))
end
end Go.Proofs.YtpmjpogcaglphaaDoor.A
namespace Go.Proofs.YtpmjpogcaglphaaDoor.A
open Go
open Go Go.ChangeShapes
section
variable {P : Program} {t : TypeId} {x : AV}
theorem bP0 {k : IntKind} (hu : P.underlying t = some (.int k)) (h : aM1 P t x) : ∃ n, x = .int k n ∧ (Lit.int k n).wf = true := by
 unfold aM1 at h
 rw [hu] at h
 obtain ⟨d, h⟩ := h
 cases d with
 | zero => exact h.elim
 | succ d =>
  unfold Shaped at h
  rw [hu] at h
  obtain ⟨n, e, hw⟩ := h
  injection e with e _
  exact ⟨n, e, hw⟩
end
end Go.Proofs.YtpmjpogcaglphaaDoor.A
