/- A, part 7: operations on plain values; equality of structs and arrays. -/
import Derived.Test.YtcaemgpificohaaA6
import Derived.Laws.StructEq
import Derived.ChangeKeysEq
import Derived.Laws.Strings
import Derived.Laws.Concat
set_option linter.unusedVariables false
set_option linter.unusedSimpArgs false
set_option linter.unnecessarySimpa false
namespace Go.Proofs.Ytcaemgpificohaa.A
open Go

theorem str_toList (s : List UInt8) : (⟨s.toArray⟩ : ByteArray).toList = s := by rw [ByteArray.toList_eq]
theorem str_size (s : List UInt8) : (⟨s.toArray⟩ : ByteArray).size = s.length := by simp [ByteArray.size]

/-- Nothing turns but perhaps the orders drawn; the answer is related. -/
def Says (P : Program) (c : Ctx) (s : Sem Value) (v : AV) : Prop := ∃ cv, s.run P c.w = .ok cv c.w ∧ VR c v cv

section
variable {P : Program} {c : Ctx}
theorem bits_rel {op : BinOp} {k : IntKind} {x y : Int} {v : AV} (h : aBits op k x y = some v) : Says P c (Op.intBits op k x y) v := by
  unfold aBits at h
  cases op <;> dsimp only at h <;> first | (injection h with h; subst h; exact ⟨_, rfl, VR.int ..⟩) | (exact absurd h (by simp))
theorem int_rel {op : BinOp} {t : TypeId} {k : IntKind} {x y : Int} {v : AV} (hs : op ≠ .shl) (hs' : op ≠ .shr) (h : aInt op k x y = some v) : Says P c (binOp op t (.int k x) (.int k y)) v := by
  unfold aInt at h
  cases op <;> dsimp only at h
  case shl => exact absurd rfl hs
  case shr => exact absurd rfl hs'
  case quo | rem =>
    split at h
    · cases h
    · rename_i hy
      injection h with h; subst h
      refine ⟨_, ?_, VR.int ..⟩
      simp [binOp, Op.intDiv, hy]
  case and | or | xor | andNot =>
    obtain ⟨cv, h1, h2⟩ := bits_rel (P := P) (c := c) h
    exact ⟨cv, by simpa [binOp] using h1, h2⟩
  case add | sub | mul =>
    injection h with h; subst h
    refine ⟨_, ?_, VR.int ..⟩
    simp [binOp, Op.intArith]
  all_goals
    injection h with h; subst h
    refine ⟨_, ?_, VR.bool ..⟩
    simp [binOp, Op.intCmp]
theorem shift_rel {op : BinOp} {t : TypeId} {k k' : IntKind} {x y : Int} {v : AV} (hs : op = .shl ∨ op = .shr) (h : aShift op k x y = some v) : Says P c (binOp op t (.int k x) (.int k' y)) v := by
  unfold aShift at h
  split at h
  · cases h
  · rename_i hy
    rcases hs with rfl | rfl
    all_goals
      dsimp only at h
      injection h with h; subst h
      refine ⟨_, ?_, VR.int ..⟩
      simp [binOp, Op.shift, hy]
theorem strOp_rel {op : BinOp} {t : TypeId} {x y : List UInt8} {v : AV} (h : aStr op x y = some v) : Says P c (binOp op t (.string ⟨x.toArray⟩) (.string ⟨y.toArray⟩)) v := by
  unfold aStr at h
  cases op <;> dsimp only at h
  case add =>
    split at h
    · rename_i hl
      injection h with h; subst h
      refine ⟨.string ⟨(x ++ y).toArray⟩, ?_, VR.str ..⟩
      have hb : binOp .add t (.string ⟨x.toArray⟩) (.string ⟨y.toArray⟩) = Op.stringOp .add ⟨x.toArray⟩ ⟨y.toArray⟩ := by simp [binOp]
      rw [hb, run_string_add_sum _ _ _ (by rw [str_size, str_size]; exact hl), ByteArray.mk_append_mk]
    · cases h
  case eql | neq | lss | leq | gtr | geq =>
    injection h with h; subst h
    refine ⟨_, ?_, VR.bool ..⟩
    simp [binOp, Op.stringOp, str_toList]
  all_goals exact absurd h (by simp)
theorem un_rel {op : UnOp} {x v : AV} {xv : Value} (hx : VR c x xv) (h : aUn op x = some v) : Says P c (Op.unary op xv) v := by
  unfold aUn at h
  split at h
  · obtain rfl := hx.int_
    injection h with h; subst h
    exact ⟨_, rfl, VR.int ..⟩
  · obtain rfl := hx.int_
    obtain ⟨cv, h1, h2⟩ := bits_rel (P := P) (c := c) h
    exact ⟨cv, h1, h2⟩
  · obtain rfl := hx.bool_
    injection h with h; subst h
    exact ⟨_, rfl, VR.bool ..⟩
  · cases h

/-! ### equality, cell by cell -/
theorem eqLeaf_rel {l : Leaf} {x y : AV} {b : Bool} {xv yv : Value} (hx : VR c x xv) (hy : VR c y yv) (h : eqLeaf l x y = some b) :
    (l = .int ∧ ∃ k m n, xv = .int k m ∧ yv = .int k n ∧ b = (m == n)) ∨ (l = .bool ∧ ∃ m n, xv = .bool m ∧ yv = .bool n ∧ b = (m == n)) ∨ (l = .str ∧ ∃ m n : ByteArray, xv = .string m ∧ yv = .string n ∧ b = (m == n)) := by
  unfold eqLeaf at h
  split at h
  · obtain rfl := hx.int_
    obtain rfl := hy.int_
    split at h
    · rename_i e
      subst e
      injection h with h
      exact .inl ⟨rfl, _, _, _, rfl, rfl, h.symm⟩
    · cases h
  · obtain rfl := hx.bool_
    obtain rfl := hy.bool_
    injection h with h
    exact .inr (.inl ⟨rfl, _, _, rfl, rfl, h.symm⟩)
  · obtain rfl := hx.str_
    obtain rfl := hy.str_
    injection h with h
    refine .inr (.inr ⟨rfl, _, _, rfl, rfl, ?_⟩)
    rw [beq_toListBytes, str_toList, str_toList]
    exact h.symm
  · cases h
theorem eqLeafs_len : ∀ {ls : List Leaf} {xs ys : List AV} {b : Bool}, eqLeafs ls xs ys = some b → xs.length = ls.length ∧ ys.length = ls.length
  | [], [], [], _, _ => ⟨rfl, rfl⟩
  | [], [], _ :: _, _, h => by cases h
  | [], _ :: _, _, _, h => by cases h
  | _ :: _, [], _, _, h => by cases h
  | _ :: _, _ :: _, [], _, h => by cases h
  | l :: ls, x :: xs, y :: ys, b, h => by
    simp only [eqLeafs] at h
    split at h
    · rename_i h2
      have := eqLeafs_len h2
      simp [this]
    · cases h
theorem eqLeafs_append : ∀ {l l' : List Leaf} {xs ys : List AV} {b : Bool}, eqLeafs (l ++ l') xs ys = some b → ∃ b1 b2, eqLeafs l (xs.take l.length) (ys.take l.length) = some b1 ∧ eqLeafs l' (xs.drop l.length) (ys.drop l.length) = some b2 ∧ b = (b1 && b2)
  | [], l', xs, ys, b, h => ⟨true, b, rfl, h, rfl⟩
  | l :: ls, l', xs, ys, b, h => by
    cases xs with
    | nil => cases h
    | cons x xs =>
      cases ys with
      | nil => cases h
      | cons y ys =>
        simp only [List.cons_append, eqLeafs] at h
        split at h
        · rename_i a1 a2 h1 h2
          injection h with h
          obtain ⟨b1, b2, e1, e2, e3⟩ := eqLeafs_append h2
          exact ⟨a1 && b1, b2, by simp [eqLeafs, h1, e1], by simpa using e2, by rw [← h, e3, Bool.and_assoc]⟩
        · cases h

/-- Cells that are related, one by one. -/
def Cells (c : Ctx) (xs : List AV) (vs : Array Value) : Prop := vs.size = xs.length ∧ ∀ (j : Nat) (x : AV) (u : Value), xs[j]? = some x → vs[j]? = some u → VR c x u
theorem Cells.extract {xs : List AV} {vs : Array Value} (h : Cells c xs vs) (off n : Nat) (hn : off + n ≤ xs.length) : Cells c ((xs.drop off).take n) (vs.extract off (off + n)) := by
  have := h.1
  refine ⟨by simp; omega, fun j x u hx hu => h.2 (off + j) x u ?_ ?_⟩
  · have hj : j < n := by have := (List.getElem?_eq_some_iff.1 hx).1; simp at this; omega
    rwa [List.getElem?_take, if_pos hj, List.getElem?_drop] at hx
  · have hj : j < n := by have := (Array.getElem?_eq_some_iff.1 hu).1; simp at this; omega
    rw [Array.getElem?_extract] at hu
    split at hu
    · exact hu
    · cases hu
/-- A value of type t whose cells are these. -/
def TV (P : Program) (c : Ctx) (t : TypeId) (xs : List AV) (v : Value) : Prop :=
  (tAgg P t = some true ∧ ∃ vs, v = .agg vs ∧ Cells c xs vs) ∨ (tAgg P t = some false ∧ ∃ x, xs = [x] ∧ VR c x v)

theorem take_one {xs : List AV} {off : Nat} {x : AV} (h : xs[off]? = some x) : (xs.drop off).take 1 = [x] := by
  have hlt := (List.getElem?_eq_some_iff.1 h).1
  rw [List.drop_eq_getElem_cons hlt]
  have := (List.getElem?_eq_some_iff.1 h).2
  simp [this]

theorem part_TV {t : TypeId} {xs : List AV} {vs : Array Value} (h : Cells c xs vs) {off n : Nat} {b : Bool} (hb : tAgg P t = some b) (hn : tSize P t = some n) (hfit : off + n ≤ xs.length) (hone : b = false → n = 1) (w : World) :
    ∃ v, (part t vs off).run P w = .ok v w ∧ TV P c t ((xs.drop off).take n) v := by
  cases b with
  | true => exact ⟨_, by simp only [part, Sem.run_bind, tAgg_run hb, tSize_run hn, Result.andThen_ok, if_true, Sem.run_pure], .inl ⟨hb, _, rfl, h.extract off n hfit⟩⟩
  | false =>
    have h1 := hone rfl
    subst h1
    have hlt : off < vs.size := by have := h.1; omega
    have hx : xs[off]? = some (xs[off]'(by omega)) := List.getElem?_eq_getElem (by omega)
    refine ⟨vs[off], by simp [part, tAgg_run hb, hlt], .inr ⟨hb, _, take_one hx, h.2 off _ _ hx (by simp [hlt])⟩⟩

/-- What leafs promises of a type. -/
def Leafy (P : Program) (d : Nat) (t : TypeId) (ls : List Leaf) : Prop :=
  tSize P t = some ls.length ∧ (∃ b, tAgg P t = some b ∧ (b = false → ls.length = 1)) ∧
  ∀ D, d ≤ D → ∀ (c : Ctx) (xs ys : List AV) (xv yv : Value) (r : Bool) (w : World), TV P c t xs xv → TV P c t ys yv → eqLeafs ls xs ys = some r → (Op.equalIn D t xv yv).run P w = .ok r w

theorem eqItems_rel {d : Nat} {e : TypeId} {l : List Leaf} (IH : Leafy P d e l) {D : Nat} (hD : d ≤ D) (w : World) : ∀ (m i : Nat) (xs ys : List AV) (xv yv : Array Value) (r : Bool), Cells c xs xv → Cells c ys yv → i * l.length + m * l.length ≤ xs.length → i * l.length + m * l.length ≤ ys.length →
    eqLeafs (reps l m) ((xs.drop (i * l.length)).take (m * l.length)) ((ys.drop (i * l.length)).take (m * l.length)) = some r → (Op.eqItems D e l.length xv yv (List.range' i m)).run P w = .ok r w
  | 0, i, xs, ys, xv, yv, r, _, _, _, _, h => by
    simp [reps, eqLeafs] at h
    subst h
    simp [Op.eqItems]
  | m + 1, i, xs, ys, xv, yv, r, hx, hy, hfx, hfy, h => by
    obtain ⟨hs, ⟨b, hb, hone⟩, heq⟩ := IH
    rw [Nat.succ_mul] at hfx hfy h
    simp only [reps] at h
    obtain ⟨b1, b2, e1, e2, rfl⟩ := eqLeafs_append h
    rw [List.take_take, List.take_take, Nat.min_eq_left (by omega)] at e1
    rw [List.drop_take, List.drop_take, List.drop_drop, List.drop_drop, Nat.add_sub_cancel, ← Nat.succ_mul, Nat.succ_eq_add_one] at e2
    obtain ⟨u, p1, t1⟩ := part_TV (P := P) hx (off := i * l.length) hb hs (by omega) hone w
    obtain ⟨v, p2, t2⟩ := part_TV (P := P) hy (off := i * l.length) hb hs (by omega) hone w
    have p3 := heq D hD c _ _ u v b1 w t1 t2 e1
    have ih := eqItems_rel ⟨hs, ⟨b, hb, hone⟩, heq⟩ hD w m (i + 1) xs ys xv yv b2 hx hy (by rw [Nat.succ_mul]; omega) (by rw [Nat.succ_mul]; omega) e2
    rw [List.range'_succ]
    simp only [Op.eqItems, Sem.run_bind, p1, p2, p3, Result.andThen_ok]
    cases b1
    · simp
    · simpa using ih

theorem eqFields_rel {d D : Nat} (hD : d ≤ D) (IH : ∀ t ls, leafs P d t = some ls → Leafy P d t ls) (w : World) : ∀ (fs : List Field) (off : Nat) (ls : List Leaf) (xs ys : List AV) (xv yv : Array Value) (r : Bool), leafs.fieldLeafs (leafs P d) (tSize P) fs off = some ls → Cells c xs xv → Cells c ys yv → off + ls.length = xs.length → off + ls.length = ys.length →
    eqLeafs ls (xs.drop off) (ys.drop off) = some r → (Op.eqFields D xv yv fs).run P w = .ok r w
  | [], off, ls, xs, ys, xv, yv, r, h, _, _, hx, hy, he => by
    simp only [leafs.fieldLeafs] at h
    injection h with h
    subst h
    simp only [List.length_nil, Nat.add_zero] at hx hy
    rw [List.drop_eq_nil_of_le (by omega), List.drop_eq_nil_of_le (by omega)] at he
    simp only [eqLeafs] at he
    injection he with he
    subst he
    simp [Op.eqFields]
  | f :: fs, off, ls, xs, ys, xv, yv, r, h, cx, cy, hx, hy, he => by
    simp only [leafs.fieldLeafs] at h
    split at h
    · rename_i l hl
      split at h
      · rename_i hc
        obtain ⟨hn, ho, hsz⟩ := hc
        subst ho
        cases hrest : leafs.fieldLeafs (leafs P d) (tSize P) fs (f.offset + l.length) with
        | none => rw [hrest] at h; cases h
        | some ls' =>
          rw [hrest] at h
          simp only [Option.map_some] at h
          injection h with h
          subst h
          obtain ⟨hs, ⟨b, hb, hone⟩, heq⟩ := IH f.type l hl
          obtain ⟨b1, b2, e1, e2, rfl⟩ := eqLeafs_append he
          rw [List.drop_drop, List.drop_drop] at e2
          simp only [List.length_append] at hx hy
          obtain ⟨u, p1, t1⟩ := part_TV (P := P) cx (off := f.offset) hb hs (by omega) hone w
          obtain ⟨v, p2, t2⟩ := part_TV (P := P) cy (off := f.offset) hb hs (by omega) hone w
          have p3 := heq D hD c _ _ u v b1 w t1 t2 e1
          have ih := eqFields_rel hD IH w fs (f.offset + l.length) ls' xs ys xv yv b2 hrest cx cy (by omega) (by omega) e2
          simp only [Op.eqFields, hn, ne_eq, not_false_eq_true, if_true, Sem.run_bind, p1, p2, p3, Result.andThen_ok]
          cases b1
          · simp
          · simpa using ih
      · cases h
    · cases h

theorem reps_length {α : Type} (l : List α) (n : Nat) : (reps l n).length = n * l.length := by
  induction n with
  | zero => simp [reps]
  | succ n ih => simp [reps, ih, Nat.succ_mul]; omega

theorem leafs_rel : ∀ (d : Nat) (t : TypeId) (ls : List Leaf), leafs P d t = some ls → Leafy P d t ls
  | 0, t, ls, h => by cases h
  | d + 1, t, ls, h => by
    unfold leafs at h
    split at h
    · rename_i hu
      split at h
      · rename_i hs
        injection h with h
        subst h
        refine ⟨hs, ⟨false, by simp [tAgg, hu], fun _ => rfl⟩, fun D hD c xs ys xv yv r w hx hy he => ?_⟩
        obtain ⟨D, rfl⟩ : ∃ D', D = D' + 1 := ⟨D - 1, by omega⟩
        rcases hx with ⟨hh, _⟩ | ⟨_, x, rfl, hx⟩
        · simp [tAgg, hu] at hh
        rcases hy with ⟨hh, _⟩ | ⟨_, y, rfl, hy⟩
        · simp [tAgg, hu] at hh
        simp only [eqLeafs] at he
        split at he
        · rename_i a1 a2 h1 h2
          injection he with he
          injection h2 with h2
          subst h2
          simp at he
          subst he
          rcases eqLeaf_rel hx hy h1 with ⟨hh, _⟩ | ⟨_, m, n, rfl, rfl, rfl⟩ | ⟨hh, _⟩
          · cases hh
          · simp [Op.equalIn, run_underlying hu]
          · cases hh
        · cases he
      · cases h
    · rename_i hu
      split at h
      · rename_i hs
        injection h with h
        subst h
        refine ⟨hs, ⟨false, by simp [tAgg, hu], fun _ => rfl⟩, fun D hD c xs ys xv yv r w hx hy he => ?_⟩
        obtain ⟨D, rfl⟩ : ∃ D', D = D' + 1 := ⟨D - 1, by omega⟩
        rcases hx with ⟨hh, _⟩ | ⟨_, x, rfl, hx⟩
        · simp [tAgg, hu] at hh
        rcases hy with ⟨hh, _⟩ | ⟨_, y, rfl, hy⟩
        · simp [tAgg, hu] at hh
        simp only [eqLeafs] at he
        split at he
        · rename_i a1 a2 h1 h2
          injection he with he
          injection h2 with h2
          subst h2
          simp at he
          subst he
          rcases eqLeaf_rel hx hy h1 with ⟨_, k, m, n, rfl, rfl, rfl⟩ | ⟨hh, _⟩ | ⟨hh, _⟩
          · simp [Op.equalIn, run_underlying hu]
          · cases hh
          · cases hh
        · cases he
      · cases h
    · rename_i hu
      split at h
      · rename_i hs
        injection h with h
        subst h
        refine ⟨hs, ⟨false, by simp [tAgg, hu], fun _ => rfl⟩, fun D hD c xs ys xv yv r w hx hy he => ?_⟩
        obtain ⟨D, rfl⟩ : ∃ D', D = D' + 1 := ⟨D - 1, by omega⟩
        rcases hx with ⟨hh, _⟩ | ⟨_, x, rfl, hx⟩
        · simp [tAgg, hu] at hh
        rcases hy with ⟨hh, _⟩ | ⟨_, y, rfl, hy⟩
        · simp [tAgg, hu] at hh
        simp only [eqLeafs] at he
        split at he
        · rename_i a1 a2 h1 h2
          injection he with he
          injection h2 with h2
          subst h2
          simp at he
          subst he
          rcases eqLeaf_rel hx hy h1 with ⟨hh, _⟩ | ⟨hh, _⟩ | ⟨_, m, n, rfl, rfl, rfl⟩
          · cases hh
          · cases hh
          · simp [Op.equalIn, run_underlying hu]
        · cases he
      · cases h
    · rename_i n e hu
      split at h
      · rename_i l hl
        split at h
        · rename_i hs
          injection h with h
          subst h
          have IH := leafs_rel d e l hl
          refine ⟨by rw [hs.2, reps_length], ⟨true, by simp [tAgg, hu], fun hh => by cases hh⟩, fun D hD c xs ys xv yv r w hx hy he => ?_⟩
          obtain ⟨D, rfl⟩ : ∃ D', D = D' + 1 := ⟨D - 1, by omega⟩
          rcases hx with ⟨_, vs, rfl, hx⟩ | ⟨hh, _⟩
          · rcases hy with ⟨_, us, rfl, hy⟩ | ⟨hh, _⟩
            · obtain ⟨i, hi, hisz⟩ := tSize_info hs.1
              have hcells : P.cellsOf e = l.length := by simp [Program.cellsOf, hi, hisz]
              rw [run_equalIn_array w D vs us hu hi, hcells, List.range_eq_range']
              have hlen := eqLeafs_len he
              rw [reps_length] at hlen
              refine eqItems_rel (c := c) IH (by omega) w n 0 xs ys vs us r hx hy (by omega) (by omega) ?_
              simp only [Nat.zero_mul, List.drop_zero]
              rw [List.take_of_length_le (by omega), List.take_of_length_le (by omega)]
              exact he
            · simp [tAgg, hu] at hh
          · simp [tAgg, hu] at hh
        · cases h
      · cases h
    · rename_i fs hu
      split at h
      · cases h
      · rename_i hst
        split at h
        · rename_i l hl
          split at h
          · rename_i hs
            injection h with h
            subst h
            refine ⟨hs, ⟨true, by simp [tAgg, hu], fun hh => by cases hh⟩, fun D hD c xs ys xv yv r w hx hy he => ?_⟩
            obtain ⟨D, rfl⟩ : ∃ D', D = D' + 1 := ⟨D - 1, by omega⟩
            rcases hx with ⟨_, vs, rfl, hx⟩ | ⟨hh, _⟩
            · rcases hy with ⟨_, us, rfl, hy⟩ | ⟨hh, _⟩
              · have hf : P.fieldsOf t = fs := by simp [Program.fieldsOf, hu]
                rw [run_equalIn_struct w D t vs us (by rw [hf]; exact hu) (by simpa using hst), hf]
                have hlen := eqLeafs_len he
                exact eqFields_rel (by omega) (fun t' ls' h' => leafs_rel d t' ls' h') w fs.toList 0 l xs ys vs us r hl hx hy (by omega) (by omega) (by simpa using he)
              · simp [tAgg, hu] at hh
            · simp [tAgg, hu] at hh
          · cases h
        · cases h
    · cases h

theorem eqGuard_agg {op : BinOp} {t : TypeId} {ox oy : Operand} {vs us : Array Value} (h : P.eqGuardType P.depth t = false) (w : World) : (eqGuard op t ox oy (.agg vs) (.agg us)).run P w = .ok () w := by
  cases op <;> simp [eqGuard, h]

theorem bin_rel {op : BinOp} {t : TypeId} {ox oy : Operand} {x y v : AV} {xv yv : Value} (hx : VR c x xv) (hy : VR c y yv) (h : aBin P op t x y = some v) :
    Says P c (do eqGuard op t ox oy xv yv; binOp op t xv yv) v := by
  unfold aBin at h
  split at h
  · obtain rfl := hx.int_
    obtain rfl := hy.int_
    have hg : ∀ k a, eqGuard op t ox oy (.int k a) = fun _ => pure () := fun k a => funext fun v => eqGuard_at_int op t ox oy v k a
    split at h
    · obtain ⟨cv, h1, h2⟩ := shift_rel (P := P) (c := c) (t := t) (.inl rfl) h
      exact ⟨cv, by simp [hg]; exact h1, h2⟩
    · obtain ⟨cv, h1, h2⟩ := shift_rel (P := P) (c := c) (t := t) (.inr rfl) h
      exact ⟨cv, by simp [hg]; exact h1, h2⟩
    · rename_i n1 n2
      split at h
      · rename_i e
        subst e
        obtain ⟨cv, h1, h2⟩ := int_rel (P := P) (c := c) (t := t) n1 n2 h
        exact ⟨cv, by simp [hg]; exact h1, h2⟩
      · cases h
  · obtain rfl := hx.str_
    obtain rfl := hy.str_
    obtain ⟨cv, h1, h2⟩ := strOp_rel (P := P) (c := c) (t := t) h
    exact ⟨cv, by simp [eqGuard_at_string]; exact h1, h2⟩
  · obtain rfl := hx.bool_
    obtain rfl := hy.bool_
    split at h
    · split at h
      · rename_i hu
        injection h with h; subst h
        have hu' : P.underlying t = some .bool := isBoolT_some hu
        refine ⟨_, ?_, VR.bool ..⟩
        simp [eqGuard_at_bool, binOp, Op.equal, Op.maxDepth, run_equalIn_bool _ 9999 t _ _ hu']
      · cases h
    · split at h
      · rename_i hu
        injection h with h; subst h
        have hu' : P.underlying t = some .bool := isBoolT_some hu
        refine ⟨_, ?_, VR.bool ..⟩
        simp [eqGuard_at_bool, binOp, Op.equal, Op.maxDepth, run_equalIn_bool _ 9999 t _ _ hu']
      · cases h
    · cases h
  · obtain ⟨vs, rfl, hl, hv, _⟩ := hx.agg_
    obtain ⟨us, rfl, hl', hv', _⟩ := hy.agg_
    have key : ∀ (l : List Leaf) (b : Bool), eqLeaves P t = some l → eqLeafs l _ _ = some b → P.eqGuardType P.depth t = false ∧ (Op.equalIn 10000 t (.agg vs) (.agg us)).run P c.w = .ok b c.w := fun l b hl1 hb => by
      unfold eqLeaves at hl1
      split at hl1
      · cases hl1
      · rename_i hg
        split at hl1
        · rename_i hag
          obtain ⟨hs, _, heq⟩ := leafs_rel (P := P) 20 t l hl1
          exact ⟨by simpa using hg, heq 10000 (by omega) c _ _ _ _ b c.w (.inl ⟨hag, vs, rfl, hl, hv⟩) (.inl ⟨hag, us, rfl, hl', hv'⟩) hb⟩
        · cases hl1
    split at h
    · cases hl1 : eqLeaves P t with
      | none => rw [hl1] at h; cases h
      | some l =>
        rw [hl1] at h
        simp only [Option.bind_some] at h
        cases hb : eqLeafs l _ _ with
        | none => rw [hb] at h; cases h
        | some b =>
          rw [hb] at h
          simp only [Option.map_some] at h
          injection h with h; subst h
          obtain ⟨k1, k2⟩ := key l b hl1 hb
          refine ⟨_, ?_, VR.bool ..⟩
          simp [eqGuard_agg k1, run_eql_struct, k2]
    · cases hl1 : eqLeaves P t with
      | none => rw [hl1] at h; cases h
      | some l =>
        rw [hl1] at h
        simp only [Option.bind_some] at h
        cases hb : eqLeafs l _ _ with
        | none => rw [hb] at h; cases h
        | some b =>
          rw [hb] at h
          simp only [Option.map_some] at h
          injection h with h; subst h
          obtain ⟨k1, k2⟩ := key l b hl1 hb
          refine ⟨_, ?_, VR.bool ..⟩
          simp [eqGuard_agg k1, run_neq_struct, k2]
    · cases h
  · cases h
end

end Go.Proofs.Ytcaemgpificohaa.A
