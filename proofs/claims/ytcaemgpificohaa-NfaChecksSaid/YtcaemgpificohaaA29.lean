/- A, part 29: rules on types' operations, on data in cells, on footprints. -/
import Derived.Test.YtcaemgpificohaaA28
set_option linter.unusedVariables false
set_option linter.unusedSimpArgs false
set_option linter.unnecessarySimpa false
namespace Go.Proofs.Ytcaemgpificohaa.A
open Go

abbrev maxB : Int := 140737488355328
attribute [go_sem] maxB Nat.min_self true_or or_true List.length_replicate Nat.le_refl Int.le_refl
@[go_sem] theorem cast0 : ((0 : Nat) : Int) = 0 := rfl
section
variable {P : Program} {t e : TypeId} {s n b : Nat} {z : List AV}

/-! ### addresses -/
theorem ixs_ref (h : (tElem P t).bind (tSize P) = some s) (k g off n i) : aIndexAddr P t (.ref k g off n) i = if 0 ≤ i ∧ i < (n : Int) then some (.ptr k g (off + i.toNat * s)) else none := by
  unfold aIndexAddr; simp only [h]
theorem ixs_sl (h : (tElem P t).bind (tSize P) = some s) (n cs i) : aIndexAddr P t (.sl n cs) i = if 0 ≤ i ∧ i < (n : Int) then some (.fptr (cs.drop (i.toNat * s))) else none := by
  unfold aIndexAddr; simp only [h]
theorem ixa_fptr (h : tArray P t = some (n, e)) (hs : tSize P e = some s) (cs i) : aIndexAddr P t (.fptr cs) i = if 0 ≤ i ∧ i < (n : Int) then some (.fptr (cs.drop (i.toNat * s))) else none := by
  unfold aIndexAddr; simp only [h, hs]
theorem ixa_ptr (h : tArray P t = some (n, e)) (hs : tSize P e = some s) (k g off i) : aIndexAddr P t (.ptr k g off) i = if 0 ≤ i ∧ i < (n : Int) then some (.ptr k g (off + i.toNat * s)) else none := by
  unfold aIndexAddr; simp only [h, hs]
theorem ixv_agg (h : tArray P t = some (n, e)) (hs : tSize P e = some s) (cs i) : aIndex P t (.agg cs) i = if 0 ≤ i ∧ i < (n : Int) then takeT P e (cs.drop (i.toNat * s)) else none := by
  unfold aIndex; simp only [h, hs]
theorem ixv_str (h : isStr (P.underlying t) = true) (x i) : aIndex P t (.str x) i = if 0 ≤ i then (x[i.toNat]?).map fun b => .int .u8 b.toNat else none := by
  unfold aIndex; simp only [h, if_true]
theorem fa_ptr {f o' ft : Nat} (h : tField P t f = some (o', ft)) (hs : tSize P ft = some (s + 1)) (k g off) : fieldAddrA P t f (.ptr k g off) = some (.ptr k g (off + o')) := by
  unfold fieldAddrA; simp [h, hs]
theorem fa_fptr {f o' ft : Nat} (h : tField P t f = some (o', ft)) (hs : tSize P ft = some (s + 1)) (cs) : fieldAddrA P t f (.fptr cs) = some (.fptr (cs.drop o')) := by
  unfold fieldAddrA; simp [h, hs]
theorem fi_agg {f o' ft : Nat} (h : tField P t f = some (o', ft)) (cs) : fieldA P t f (.agg cs) = takeT P ft (cs.drop o') := by
  unfold fieldA; simp [h]

/-! ### slices -/
theorem sl_ref (h : (tElem P t).bind (tSize P) = some (s + 1)) (k g off n lo hi) : aSlice P t (.ref k g off n) lo hi = if 0 ≤ lo.getD 0 ∧ lo.getD 0 ≤ hi.getD n ∧ hi.getD n ≤ n then some (.ref k g (off + (lo.getD 0).toNat * (s + 1)) ((hi.getD n).toNat - (lo.getD 0).toNat)) else none := by
  unfold aSlice; simp only [h, Nat.succ_pos, true_and]
theorem sl_sl (h : (tElem P t).bind (tSize P) = some s) (n cs lo hi) : aSlice P t (.sl n cs) lo hi = if 0 ≤ lo.getD 0 ∧ lo.getD 0 ≤ hi.getD n ∧ hi.getD n ≤ n then some (.sl ((hi.getD n).toNat - (lo.getD 0).toNat) ((cs.take ((hi.getD n).toNat * s)).drop ((lo.getD 0).toNat * s))) else none := by
  unfold aSlice; simp only [h]
theorem sl_str (h : isStr (P.underlying t) = true) (x lo hi) : aSlice P t (.str x) lo hi = if 0 ≤ lo.getD 0 ∧ lo.getD 0 ≤ hi.getD x.length ∧ hi.getD x.length ≤ x.length then some (.str ((x.take (hi.getD x.length).toNat).drop (lo.getD 0).toNat)) else none := by
  unfold aSlice; simp only [h, true_and]
theorem ln_nil (h : P.underlying t = some (.slice e)) (o) : aLen P o t .nil = some (.int .i64 0) := by unfold aLen; simp only [h]
theorem ln_sl (h : P.underlying t = some (.slice e)) (o n cs) : aLen P o t (.sl n cs) = some (.int .i64 n) := by unfold aLen; simp only [h]
theorem ln_ref (h : P.underlying t = some (.slice e)) (o k g off n) : aLen P o t (.ref k g off n) = some (.int .i64 n) := by unfold aLen; simp only [h]
theorem ln_str (h : P.underlying t = some .string) (o x) : aLen P o t (.str x) = some (.int .i64 x.length) := by unfold aLen; simp only [h]
theorem ln_arr (h : P.underlying t = some (.array n e)) (o x) : aLen P o t x = some (.int .i64 n) := by unfold aLen; simp only [h]
theorem ms_eq (h : tElem P t = some e) (hs : tSize P e = some (s + 1)) (hb : tBytes P e = some b) (hz : tZero P e = some z) (hl : z.length = s + 1) (tg l c o nx) : aMakeSlice P tg t l c ⟨o, nx⟩ = if 0 ≤ l ∧ l ≤ c ∧ c * b ≤ maxB ∧ c ≤ maxB then some (.ref tg tg 0 l.toNat, ⟨upd o tg (.row ⟨e, s + 1, tg, false, true, rep z l.toNat⟩), nx⟩) else none := by
  unfold aMakeSlice; simp only [h, hs, hb, hz, hl, Nat.succ_pos, and_true]; rfl
theorem bs_eq (h : tElem P t = some e) (hs : tSize P e = some (s + 1)) (hz : tZero P e = some z) (hl : z.length = s + 1) (tg n ps o nx) : aBuildSlice P tg t n ps ⟨o, nx⟩ = if n * (s + 1) ≤ 16777216 then (fillA (fun i => some (i * (s + 1), s + 1)) (rep z n) ps).map (fun cs => (.ref tg tg 0 n, ⟨upd o tg (.row ⟨e, s + 1, tg, false, true, cs⟩), nx⟩)) else none := by
  unfold aBuildSlice; simp only [h, hs, hz, hl, Nat.succ_pos, and_true]
  split
  · cases fillA (fun i => some (i * (s + 1), s + 1)) (rep z n) ps <;> rfl
  · rfl
/-- Appending cells. -/
def appW (tg : Tag) (e sz by_ : Nat) (x : AV) (m : Nat) (new : List AV) (o : Ob) (nx : Nat) : Option (AV × AH) :=
  if new.length = m * sz ∧ new.all cellOk = true then
    match x with
    | .nil => if m = 0 then some (.nil, ⟨o, nx⟩) else if (m * by_ : Int) ≤ maxB then some (.ref tg tg 0 m, ⟨upd o tg (.row ⟨e, sz, tg, false, true, new⟩), nx⟩) else none
    | .ref k g 0 n => (rowIf (o k) g).bind fun r => if r.elem = e ∧ r.sz = sz ∧ r.ro = false ∧ r.plain = true ∧ n * sz ≤ r.cs.length ∧ ((n + m) * by_ : Int) ≤ maxB then some (.ref k tg 0 (n + m), ⟨upd o k (.row { r with gen := tg, cs := r.cs.take (n * sz) ++ new }), nx⟩) else none
    | _ => none
  else none
theorem ap_eq {t' : TypeId} (h : tElem P t = some e) (hs : tSize P e = some (s + 1)) (hb : tBytes P e = some (b + 1)) (hz : tZero P e = some z) (hl : z.length = s + 1) (ht : (isStr (P.underlying t') || (tElem P t').isSome) = true) (tg x y o nx) : aAppend P tg t t' x y ⟨o, nx⟩ = (srcOf o y).bind fun q => appW tg e (s + 1) (b + 1) x q.1 q.2 o nx := by
  unfold aAppend
  simp only [h, hs, hb, hz]
  cases srcOf o y with
  | none => rfl
  | some q =>
    obtain ⟨m, new⟩ := q
    have h1 : ¬ (isStr (P.underlying t') = false ∧ (tElem P t').isSome = false) := by
      rintro ⟨h1, h2⟩; rw [h1, h2] at ht; cases ht
    simp only [Option.bind_some, appW, hl, ne_eq, not_true_eq_false, h1, false_or, Nat.succ_ne_zero]
    by_cases hc : new.length = m * (s + 1) ∧ new.all cellOk = true
    · have c3 : ¬ (¬ new.length = m * (s + 1) ∨ new.all cellOk = false) := by
        rintro (h | h)
        · exact h hc.1
        · rw [hc.2] at h; cases h
      rw [if_neg c3, if_pos hc]
      cases x with
      | nil =>
        have : (m * (b + 1) ≤ 140737488355328) ↔ ((m : Int) * ((b + 1 : Nat) : Int) ≤ maxB) := by unfold maxB; rw [← Int.natCast_mul]; omega
        simp only [this]
        rfl
      | ref k g off n =>
        cases off with
        | zero =>
          have : ((n + m) * (b + 1) ≤ 140737488355328) ↔ (((n : Int) + (m : Int)) * ((b + 1 : Nat) : Int) ≤ maxB) := by
            unfold maxB
            rw [← Int.natCast_add, ← Int.natCast_mul]
            omega
          simp only [aRow_eq, this]
          cases rowIf (o k) g <;> rfl
        | succ off => rfl
      | _ => rfl
    · have c3 : (¬ new.length = m * (s + 1) ∨ new.all cellOk = false) := by
        by_cases c1 : new.length = m * (s + 1)
        · exact .inr (by rw [← Bool.not_eq_true]; exact fun h => hc ⟨c1, h⟩)
        · exact .inl c1
      rw [if_pos c3, if_neg hc]
@[go_sem] theorem appW_nil (tg e sz by_ m new o nx) : appW tg e sz by_ .nil m new o nx = if new.length = m * sz ∧ new.all cellOk = true then (if m = 0 then some (.nil, ⟨o, nx⟩) else if (m * by_ : Int) ≤ maxB then some (.ref tg tg 0 m, ⟨upd o tg (.row ⟨e, sz, tg, false, true, new⟩), nx⟩) else none) else none := rfl
def appR (tg : Tag) (e sz by_ : Nat) (k : Tag) (n m : Nat) (new : List AV) (o : Ob) (nx : Nat) (r : Row) : Option (AV × AH) :=
  if r.elem = e ∧ r.sz = sz ∧ r.ro = false ∧ r.plain = true ∧ n * sz ≤ r.cs.length ∧ ((n + m) * by_ : Int) ≤ maxB then some (.ref k tg 0 (n + m), ⟨upd o k (.row { r with gen := tg, cs := r.cs.take (n * sz) ++ new }), nx⟩) else none
@[go_sem] theorem appR_row (tg e sz by_ k n m new o nx g cs) : appR tg e sz by_ k n m new o nx ⟨e, sz, g, false, true, cs⟩ = if n * sz ≤ cs.length ∧ ((n + m) * by_ : Int) ≤ maxB then some (.ref k tg 0 (n + m), ⟨upd o k (.row ⟨e, sz, tg, false, true, cs.take (n * sz) ++ new⟩), nx⟩) else none := by
  unfold appR; simp
@[go_sem] theorem appW_ref (tg e sz by_ k g n m new o nx) : appW tg e sz by_ (.ref k g 0 n) m new o nx = if new.length = m * sz ∧ new.all cellOk = true then (rowIf (o k) g).bind (appR tg e sz by_ k n m new o nx) else none := rfl

def copyR (k : Tag) (off n sz m : Nat) (new : List AV) (o : Ob) (nx : Nat) (r : Row) : Option (AV × AH) :=
  if (off = 0 ∨ 0 < n) ∧ r.sz = sz ∧ r.ro = false ∧ off + n * sz ≤ r.cs.length ∧ new.length = m * sz ∧ new.all cellOk = true then some (.int .i64 (min m n : Nat), ⟨upd o k (.row { r with cs := splice r.cs off (new.take (min m n * sz)) }), nx⟩) else none
@[go_sem] theorem copyR_row (k off n sz m new o nx e g pl cs) : copyR k off n sz m new o nx ⟨e, sz, g, false, pl, cs⟩ = if (off = 0 ∨ 0 < n) ∧ off + n * sz ≤ cs.length ∧ new.length = m * sz ∧ new.all cellOk = true then some (.int .i64 (min m n : Nat), ⟨upd o k (.row ⟨e, sz, g, false, pl, splice cs off (new.take (min m n * sz))⟩), nx⟩) else none := by
  unfold copyR; simp
theorem cp_ref (h : (tElem P t).bind (tSize P) = some s) (k g off n x o nx) : aCopy P t (.ref k g off n) x ⟨o, nx⟩ = (srcOf o x).bind fun q => (rowIf (o k) g).bind (copyR k off n s q.1 q.2 o nx) := by
  unfold aCopy
  simp only [h]
  cases srcOf o x with
  | none => rfl
  | some q =>
    simp only [Option.bind_some, aRow_eq]
    cases rowIf (o k) g <;> rfl

theorem bd_struct {fs : Array Field} {ps : List (Nat × Nat)} (hz : tZero P t = some z) (hu : P.underlying t = some (.struct fs)) (hp : fieldPlaces P fs.toList = some ps) (xs) : aBuild P t xs = (fillA (fun i => ps[i]?) z xs).map .agg := by
  unfold aBuild; simp only [hz, hu, hp]
theorem bd_array (hz : tZero P t = some z) (hu : P.underlying t = some (.array n e)) (hs : tSize P e = some s) (xs) : aBuild P t xs = (fillA (fun i => some (i * s, s)) z xs).map .agg := by
  unfold aBuild; simp only [hz, hu, hs]
end

/-! ### literals -/
@[go_sem] theorem partsOf_nil (a) : partsOf a [] = some [] := rfl
def consP (i : Nat) (x : Option AV) (xs : Option (List (Nat × AV))) : Option (List (Nat × AV)) := match x, xs with | some v, some vs => some ((i, v) :: vs) | _, _ => none
@[go_sem] theorem consP_some (i v vs) : consP i (some v) (some vs) = some ((i, v) :: vs) := rfl
@[go_sem] theorem partsOf_cons (a i x ps) : partsOf a ((i, x) :: ps) = consP i (opd a x) (partsOf a ps) := rfl
@[go_sem] theorem fillA_nil (place cells) : fillA place cells [] = some cells := rfl
def fill1 (p : Option (Nat × Nat)) (cells vs : List AV) : Option (List AV) := match p with
  | none => none
  | some (off, size) => if vs.length = size ∧ off + size ≤ cells.length ∧ vs.all cellOk = true then some (splice cells off vs) else none
@[go_sem] theorem fillA_cons (place cells i v rest) : fillA place cells ((i, v) :: rest) = (fill1 (place i) cells v.cells).bind fun cs => fillA place cs rest := by
  simp only [fillA, fill1]
  cases place i with
  | none => rfl
  | some q => obtain ⟨off, size⟩ := q; dsimp only; split <;> rfl
@[go_sem] theorem fill1_some (off size cells vs) : fill1 (some (off, size)) cells vs = if vs.length = size ∧ off + size ≤ cells.length ∧ vs.all cellOk = true then some (splice cells off vs) else none := rfl
@[go_sem] theorem storeR_row (k off n cs o nx e s g pl rs) : storeR k off n cs o nx ⟨e, s, g, false, pl, rs⟩ = if cs.length = n ∧ cs.all cellOk = true ∧ off + n ≤ rs.length then some ⟨upd o k (.row ⟨e, s, g, false, pl, splice rs off cs⟩), nx⟩ else none := by
  unfold storeR; simp
@[go_sem] theorem splice_zero (rs cs) : splice rs 0 cs = cs ++ rs.drop cs.length := by simp [splice]
@[go_sem] theorem splice_succ (x rs off cs) : splice (x :: rs) (off + 1) cs = x :: splice rs off cs := by
  unfold splice
  rw [show off + 1 + cs.length = (off + cs.length) + 1 by omega]
  rfl
@[go_sem] theorem rep_zero (z) : rep z 0 = [] := rfl
@[go_sem] theorem rep_succ (z n) : rep z (n + 1) = z ++ rep z n := rfl
theorem rep_one (x n) : rep [x] n = List.replicate n x := by
  induction n with
  | zero => rfl
  | succ n ih => simp [rep, ih, List.replicate_succ]
theorem rep_flat (z n) : rep z n = (List.replicate n z).flatten := by
  induction n with
  | zero => rfl
  | succ n ih => simp [rep, ih, List.replicate_succ]

/-! ### sources -/
@[go_sem] theorem srcOf_nil (o) : srcOf o .nil = some (0, []) := rfl
@[go_sem] theorem srcOf_sl (o n cs) : srcOf o (.sl n cs) = some (n, cs) := rfl
@[go_sem] theorem srcOf_str (o x) : srcOf o (.str x) = some (x.length, x.map fun b => .int .u8 b.toNat) := rfl
@[go_sem] theorem srcOf_ref (o k g off n) : srcOf o (.ref k g off n) = (rowIf (o k) g).map fun r => (n, (r.cs.drop off).take (n * r.sz)) := by
  simp only [srcOf, sliceCells, aRow_eq]; cases rowIf (o k) g <;> rfl

/-! ### numbers -/
@[go_sem] theorem aBin_add (P t k x y) : aBin P .add t (.int k x) (.int k y) = some (.int k (k.wrap (x + y))) := by simp [aBin, aInt]
@[go_sem] theorem aBin_sub (P t k x y) : aBin P .sub t (.int k x) (.int k y) = some (.int k (k.wrap (x - y))) := by simp [aBin, aInt]
@[go_sem] theorem aBin_mul (P t k x y) : aBin P .mul t (.int k x) (.int k y) = some (.int k (k.wrap (x * y))) := by simp [aBin, aInt]
@[go_sem] theorem aBin_quo (P t k x y) : aBin P .quo t (.int k x) (.int k y) = if y = 0 then none else some (.int k (k.wrap (x.tdiv y))) := by simp [aBin, aInt]
@[go_sem] theorem aBin_rem (P t k x y) : aBin P .rem t (.int k x) (.int k y) = if y = 0 then none else some (.int k (x.tmod y)) := by simp [aBin, aInt]
@[go_sem] theorem aBin_eql (P t k x y) : aBin P .eql t (.int k x) (.int k y) = some (.bool (decide (x = y))) := by simp [aBin, aInt]; rfl
@[go_sem] theorem aBin_neq (P t k x y) : aBin P .neq t (.int k x) (.int k y) = some (.bool (decide (¬ x = y))) := by simp [aBin, aInt, bne]; rfl
@[go_sem] theorem aBin_lss (P t k x y) : aBin P .lss t (.int k x) (.int k y) = some (.bool (decide (x < y))) := by simp [aBin, aInt]
@[go_sem] theorem aBin_leq (P t k x y) : aBin P .leq t (.int k x) (.int k y) = some (.bool (decide (x ≤ y))) := by simp [aBin, aInt]
@[go_sem] theorem aBin_gtr (P t k x y) : aBin P .gtr t (.int k x) (.int k y) = some (.bool (decide (y < x))) := by simp [aBin, aInt]
@[go_sem] theorem aBin_geq (P t k x y) : aBin P .geq t (.int k x) (.int k y) = some (.bool (decide (y ≤ x))) := by simp [aBin, aInt]
@[go_sem] theorem aBin_shl (P t k k' x y) : aBin P .shl t (.int k x) (.int k' y) = aShift .shl k x y := by simp [aBin]
@[go_sem] theorem aBin_shr (P t k k' x y) : aBin P .shr t (.int k x) (.int k' y) = aShift .shr k x y := by simp [aBin]
@[go_sem] theorem aBin_and (P t k x y) : aBin P .and t (.int k x) (.int k y) = aBits .and k x y := by simp [aBin, aInt]
@[go_sem] theorem aBin_or (P t k x y) : aBin P .or t (.int k x) (.int k y) = aBits .or k x y := by simp [aBin, aInt]
theorem aBin_beq {P : Program} {t : TypeId} (h : isBoolT (P.underlying t) = true) (x y) : aBin P .eql t (.bool x) (.bool y) = some (.bool (x == y)) := by simp [aBin, h]
theorem aBin_bne {P : Program} {t : TypeId} (h : isBoolT (P.underlying t) = true) (x y) : aBin P .neq t (.bool x) (.bool y) = some (.bool (!(x == y))) := by simp [aBin, h]
@[go_sem] theorem aBin_sadd (P t x y) : aBin P .add t (.str x) (.str y) = if x.length + y.length ≤ 9223372036854775807 then some (.str (x ++ y)) else none := by simp [aBin, aStr]
@[go_sem] theorem aBin_seql (P t x y) : aBin P .eql t (.str x) (.str y) = some (.bool (x == y)) := by simp [aBin, aStr]
@[go_sem] theorem aBin_sneq (P t x y) : aBin P .neq t (.str x) (.str y) = some (.bool (!(x == y))) := by simp [aBin, aStr]
@[go_sem] theorem aUn_not (x) : aUn .not (.bool x) = some (.bool (!x)) := rfl
@[go_sem] theorem aUn_neg (k n) : aUn .neg (.int k n) = some (.int k (k.wrap (0 - n))) := rfl
def cvI (s d : Option TypeDesc) (n : Int) (o : Ob) (nx : Nat) : Option (AV × AH) := match s, d with | some _, some (.int k) => some (.int k (k.wrap n), ⟨o, nx⟩) | _, _ => none
@[go_sem] theorem cvI_some (s k n o nx) : cvI (some s) (some (.int k)) n o nx = some (.int k (k.wrap n), ⟨o, nx⟩) := rfl
theorem cv_int {P : Program} {s d : TypeId} {k : IntKind} {td : TypeDesc} (hs : P.underlying s = some td) (hd : P.underlying d = some (.int k)) (tg k' n o nx) : aConvert P tg s d (.int k' n) ⟨o, nx⟩ = some (.int k (k.wrap n), ⟨o, nx⟩) := by
  unfold aConvert; simp only [hs, hd]

@[go_sem] theorem aShift_shr (k x y) : aShift .shr k x y = if y < 0 then none else some (.int k (x.fdiv (2 ^ (min y.toNat k.bits)))) := rfl
@[go_sem] theorem aShift_shl (k x y) : aShift .shl k x y = if y < 0 then none else some (.int k (k.wrap (x * 2 ^ (min y.toNat k.bits)))) := rfl
def andI (k : IntKind) (x y : Int) : Int := k.wrap (BitVec.ofInt k.bits x &&& BitVec.ofInt k.bits y).toNat
def orI (k : IntKind) (x y : Int) : Int := k.wrap (BitVec.ofInt k.bits x ||| BitVec.ofInt k.bits y).toNat
@[go_sem] theorem aBits_and (k x y) : aBits .and k x y = some (.int k (andI k x y)) := rfl
@[go_sem] theorem aBits_or (k x y) : aBits .or k x y = some (.int k (orI k x y)) := rfl
@[go_sem] theorem bits_i64 : IntKind.i64.bits = 64 := rfl
@[go_sem] theorem bits_u64 : IntKind.u64.bits = 64 := rfl
@[go_sem] theorem bits_u8 : IntKind.u8.bits = 8 := rfl

/-! ### data in cells -/
def cI (l : List Int) : List AV := l.map (AV.int .i64)
def cB (l : List Bool) : List AV := l.map AV.bool
abbrev slI (l : List Int) : AV := .sl l.length (cI l)
abbrev slB (l : List Bool) : AV := .sl l.length (cB l)
@[go_sem] theorem cI_nil : cI [] = [] := rfl
@[go_sem] theorem cB_nil : cB [] = [] := rfl
@[go_sem] theorem cI_length (l) : (cI l).length = l.length := by simp [cI]
@[go_sem] theorem cB_length (l) : (cB l).length = l.length := by simp [cB]
@[go_sem] theorem cI_ok (l) : (cI l).all cellOk = true := by simp [cI, List.all_eq_true, cellOk]
@[go_sem] theorem cB_ok (l) : (cB l).all cellOk = true := by simp [cB, List.all_eq_true, cellOk]
theorem cI_app (x y) : cI (x ++ y) = cI x ++ cI y := by simp [cI]
theorem cB_app (x y) : cB (x ++ y) = cB x ++ cB y := by simp [cB]
theorem cI_take (l n) : (cI l).take n = cI (l.take n) := by simp [cI, List.map_take]
theorem cI_drop (l n) : (cI l).drop n = cI (l.drop n) := by simp [cI, List.map_drop]
theorem cB_take (l n) : (cB l).take n = cB (l.take n) := by simp [cB, List.map_take]
theorem cB_drop (l n) : (cB l).drop n = cB (l.drop n) := by simp [cB, List.map_drop]
theorem cI_one (x) : [AV.int .i64 x] = cI [x] := rfl
theorem cI_snoc (l x) : cI l ++ [AV.int .i64 x] = cI (l ++ [x]) := by simp [cI]
theorem cB_snoc (l x) : cB l ++ [AV.bool x] = cB (l ++ [x]) := by simp [cB]
theorem take1_drop {cs : List AV} {i s : Nat} (h : i < cs.length) : take1 false s (cs.drop i) = some (cs[i]'h) := by
  rw [List.drop_eq_getElem_cons h]; rfl
theorem cI_get {l : List Int} {i s : Nat} (h : i < l.length) : take1 false s ((cI l).drop i) = some (.int .i64 (l.getD i 0)) := by
  rw [take1_drop (by simpa [cI] using h)]; simp [cI, List.getD, h]
theorem cB_get {l : List Bool} {i s : Nat} (h : i < l.length) : take1 false s ((cB l).drop i) = some (.bool (l.getD i false)) := by
  rw [take1_drop (by simpa [cB] using h)]; simp [cB, List.getD, h]
theorem splice_eq (cs : List AV) (off : Nat) (x : AV) (h : off < cs.length) : splice cs off [x] = cs.set off x := by
  unfold splice
  rw [List.set_eq_take_append_cons_drop, if_pos h]; simp
theorem cI_set (l : List Int) (i x) (h : i < l.length) : splice (cI l) i [.int .i64 x] = cI (l.set i x) := by
  rw [splice_eq _ _ _ (by simpa [cI] using h)]; simp [cI, List.map_set]
theorem cB_set (l : List Bool) (i x) (h : i < l.length) : splice (cB l) i [.bool x] = cB (l.set i x) := by
  rw [splice_eq _ _ _ (by simpa [cB] using h)]; simp [cB, List.map_set]
theorem rep_int (n) : rep [AV.int .i64 0] n = cI (List.replicate n 0) := by rw [rep_one]; simp [cI]
theorem rep_bool (n) : rep [AV.bool false] n = cB (List.replicate n false) := by rw [rep_one]; simp [cB]

/-! ### views -/
@[go_sem] theorem view_int (o d k n) : view o d (.int k n) = .int k n := by cases d <;> rfl
@[go_sem] theorem view_bool (o d b) : view o d (.bool b) = .bool b := by cases d <;> rfl
@[go_sem] theorem view_str (o d b) : view o d (.str b) = .str b := by cases d <;> rfl
@[go_sem] theorem view_nil (o d) : view o d .nil = .sl 0 [] := by cases d <;> rfl
@[go_sem] theorem view_sl (o d n cs) : view o d (.sl n cs) = .sl n cs := by cases d <;> rfl
@[go_sem] theorem view_fptr (o d cs) : view o d (.fptr cs) = .fptr cs := by cases d <;> rfl
@[go_sem] theorem view_agg (o d cs) : view o (d + 1) (.agg cs) = .agg (cs.map (view o d)) := rfl
@[go_sem] theorem view_tup (o d cs) : view o (d + 1) (.tup cs) = .tup (cs.map (view o d)) := rfl
def viewR (o : Ob) (d off n : Nat) (r : Option Row) : AV := match r with
  | some r => if off + n * r.sz ≤ r.cs.length then .sl n (((r.cs.drop off).take (n * r.sz)).map (view o d)) else .und
  | none => .und
@[go_sem] theorem viewR_some (o d off n r) : viewR o d off n (some r) = if off + n * r.sz ≤ r.cs.length then .sl n (((r.cs.drop off).take (n * r.sz)).map (view o d)) else .und := rfl
@[go_sem] theorem view_ref (o d k g off n) : view o (d + 1) (.ref k g off n) = viewR o d off n (rowIf (o k) g) := by
  unfold viewR; simp only [view]; rw [aRow_eq]; cases rowIf (o k) g <;> rfl
@[go_sem] theorem vDepth_eq : vDepth = 12 := rfl
@[go_sem] theorem view_cI (o d l) : (cI l).map (view o d) = cI l := by simp [cI, Function.comp_def, view_int]
@[go_sem] theorem view_cB (o d l) : (cB l).map (view o d) = cB l := by simp [cB, Function.comp_def, view_bool]
attribute [go_sem] List.map_cons List.map_nil List.map_append List.length_append List.all_append List.flatMap_append flat flat.flats

/-! ### calls -/
def retF (r : Option AV) (sc : Bool) (as_ : List AV) (o : Ob) (nx : Nat) : Option (AV × AH) := r.bind fun v => freezeP sc as_ v ⟨o, nx⟩
def callM (m : Mode) (E : Env) (cp : CallP) (cr : CallR) (g : FuncId) (as_ : List AV) (o : Ob) (nx : Nat) : Option (AV × AH) := match m with
  | .pure sc => (cp g (as_.map (view o vDepth))).bind fun r => freezeP sc as_ r ⟨o, nx⟩
  | .ext sc => (E.ext g (as_.map (view o vDepth))).bind fun r => freezeP sc as_ r ⟨o, nx⟩
  | .raw fz => (cr g as_ ⟨o, nx⟩).map fun p => freezeR fz p.1 p.2
@[go_sem] theorem aCall_eq (E cp cr g fs cs as_ o nx) : aCall E cp cr (.fn (.func g) fs cs) as_ ⟨o, nx⟩ = callM (E.mode g) E cp cr g (fs ++ as_ ++ cs) o nx := by
  unfold aCall callM; rfl
@[go_sem] theorem callM_ext (E cp cr g sc as_ o nx) : callM (.ext sc) E cp cr g as_ o nx = (E.ext g (as_.map (view o vDepth))).bind fun r => freezeP sc as_ r ⟨o, nx⟩ := rfl
@[go_sem] theorem callM_raw (E cp cr g fz as_ o nx) : callM (.raw fz) E cp cr g as_ o nx = (cr g as_ ⟨o, nx⟩).map fun p => freezeR fz p.1 p.2 := rfl
@[go_sem] theorem freezeP_true (as_ r H) : freezeP true as_ r H = if flat r then some (r, H) else none := rfl
@[go_sem] theorem freezeP_false (as_ r o nx) : freezeP false as_ r ⟨o, nx⟩ = some (r, ⟨sealed (as_.flatMap (viewTags o vDepth)) o, nx⟩) := rfl
theorem sealed_out {ts : List Tag} {o : Ob} {t : Tag} (h : t ∉ ts) : sealed ts o t = o t := by
  unfold sealed
  cases o t with
  | none => rfl
  | some x =>
    cases x with
    | row r => simp [h]
    | map es => rfl
@[go_sem] theorem sealed_nil (o) : sealed [] o = o := by funext t; exact sealed_out (by simp)
@[go_sem] theorem tags_int (o d k n) : viewTags o d (.int k n) = [] := by cases d <;> rfl
@[go_sem] theorem tags_bool (o d b) : viewTags o d (.bool b) = [] := by cases d <;> rfl
@[go_sem] theorem tags_str (o d b) : viewTags o d (.str b) = [] := by cases d <;> rfl
@[go_sem] theorem tags_nil (o d) : viewTags o d .nil = [] := by cases d <;> rfl
@[go_sem] theorem tags_sl (o d n cs) : viewTags o d (.sl n cs) = [] := by cases d <;> rfl
@[go_sem] theorem tags_fptr (o d cs) : viewTags o d (.fptr cs) = [] := by cases d <;> rfl
@[go_sem] theorem tags_agg (o d cs) : viewTags o (d + 1) (.agg cs) = cs.flatMap (viewTags o d) := rfl
@[go_sem] theorem tags_cI (o d l) : (cI l).flatMap (viewTags o d) = [] := by simp [cI, List.flatMap_eq_nil_iff, tags_int]
@[go_sem] theorem tags_cB (o d l) : (cB l).flatMap (viewTags o d) = [] := by
  induction l with
  | nil => rfl
  | cons b l ih => simpa [cB, tags_bool] using ih
def tagsR (o : Ob) (d : Nat) (k : Tag) (off n : Nat) (r : Option Row) : List Tag := match r with
  | some r => k :: (((r.cs.drop off).take (n * r.sz)).flatMap (viewTags o d))
  | none => [k]
@[go_sem] theorem tagsR_some (o d k off n r) : tagsR o d k off n (some r) = k :: (((r.cs.drop off).take (n * r.sz)).flatMap (viewTags o d)) := rfl
@[go_sem] theorem tags_ref (o d k g off n) : viewTags o (d + 1) (.ref k g off n) = tagsR o d k off n (rowIf (o k) g) := by
  unfold tagsR; simp only [viewTags]; rw [aRow_eq]; cases rowIf (o k) g <;> rfl
attribute [go_sem] List.flatMap_cons List.flatMap_nil

def sealIf (b : Bool) (x : Option AObj) : Option AObj := match b with | true => x | false => match x with | some (.row r) => some (.row { r with ro := true }) | x => x
@[go_sem] theorem sealIf_true (x) : sealIf true x = x := rfl
@[go_sem] theorem sealIf_row (e s g ro pl cs) : sealIf false (some (.row ⟨e, s, g, ro, pl, cs⟩)) = some (.row ⟨e, s, g, true, pl, cs⟩) := rfl
/-- A tag that is none of these. -/
def nin (t : Tag) (l : List Tag) : Bool := !l.contains t
@[go_sem] theorem sealed_app (ts o i j) : sealed ts o (i, j) = sealIf (nin (i, j) ts) (o (i, j)) := by
  unfold sealed sealIf nin
  cases o (i, j) with
  | none => cases ts.contains (i, j) <;> rfl
  | some x =>
    cases x with
    | row r => cases h : ts.contains (i, j) <;> simp [h]
    | map es => cases ts.contains (i, j) <;> rfl

/-! ### footprints -/
@[go_sem] theorem needOf_nil (i) : needOf [] i = false := rfl
@[go_sem] theorem needOf_cons (a b l i) : needOf ((a, b) :: l) i = (decide (a = i) || decide (b = i) || needOf l i) := by
  have h : ∀ x y, Nat.beq x y = decide (x = y) := fun x y => by rw [Bool.eq_iff_iff]; simp [Nat.beq_eq_true_eq]
  simp only [needOf, h]
@[go_sem] theorem cond_true' {α : Type} (x y : α) : (bif true then x else y) = x := rfl
@[go_sem] theorem cond_false' {α : Type} (x y : α) : (bif false then x else y) = y := rfl
section
variable (E : Env) (st : Nat) (ops : Array Oper) (d : Option Tmp) (ty : TypeId) (p : String) (af : Array Edge) (a : AAct) (H : AH)
def ownT (st : Nat) (d : Option Tmp) : List Tag := match d with | some d => [(st, d)] | none => []
@[go_sem] theorem ownT_some (st d) : ownT st (some d) = [(st, d)] := rfl
@[go_sem] theorem ownT_none (st) : ownT st none = [] := rfl
@[go_sem] theorem ft_load (t x) : foot E st ops ⟨d, .load t x, ty, p, af, none⟩ a H = ⟨tagO (opd a x), [], false⟩ := rfl
@[go_sem] theorem ft_store (t x y) : foot E st ops ⟨d, .store t x y, ty, p, af, none⟩ a H = ⟨[], tagO (opd a x), false⟩ := rfl
@[go_sem] theorem ft_alloc (t) : foot E st ops ⟨d, .alloc t, ty, p, af, none⟩ a H = ⟨[], ownT st d, false⟩ := rfl
@[go_sem] theorem ft_box (t x) : foot E st ops ⟨d, .box t x, ty, p, af, none⟩ a H = ⟨[], ownT st d, false⟩ := rfl
@[go_sem] theorem ft_buildSlice (t n ps) : foot E st ops ⟨d, .buildSlice t n ps, ty, p, af, none⟩ a H = ⟨[], ownT st d, false⟩ := rfl
@[go_sem] theorem ft_makeSlice (t x y) : foot E st ops ⟨d, .makeSlice t x y, ty, p, af, none⟩ a H = ⟨[], ownT st d, false⟩ := rfl
@[go_sem] theorem ft_convert (s t x) : foot E st ops ⟨d, .convert s t x, ty, p, af, none⟩ a H = ⟨tagO (opd a x), ownT st d, false⟩ := rfl
@[go_sem] theorem ft_append (x y ts) : foot E st ops ⟨d, .call ⟨.builtin .append, #[x, y], ts⟩, ty, p, af, none⟩ a H = ⟨tagO (opd a y), ownT st d ++ tagO (opd a x), false⟩ := rfl
@[go_sem] theorem ft_copy (x y ts) : foot E st ops ⟨d, .call ⟨.builtin .copy, #[x, y], ts⟩, ty, p, af, none⟩ a H = ⟨tagO (opd a y), tagO (opd a x), false⟩ := rfl
@[go_sem] theorem ft_len (x ts) : foot E st ops ⟨d, .call ⟨.builtin .len, #[x], ts⟩, ty, p, af, none⟩ a H = ⟨tagO (opd a x) ++ [], [], false⟩ := rfl
def ftF (E : Env) (fv : Option AV) (vs : List AV) (o : Ob) : FP := match fv with
  | some (.fn (.func g) first captured) =>
    let ts := (first ++ vs ++ captured).flatMap (viewTags o vDepth)
    match E.mode g with
    | .pure true => ⟨ts, [], false⟩
    | .ext true => ⟨ts, [], false⟩
    | .pure false => ⟨ts, ts, false⟩
    | .ext false => ⟨ts, ts, false⟩
    | .raw _ => ⟨[], [], true⟩
  | _ => ⟨[], [], true⟩
@[go_sem] theorem ft_call (f xs ts) : foot E st ops ⟨d, .call ⟨.value f, xs, ts⟩, ty, p, af, none⟩ a H = ftF E (opd a f) (xs.toList.filterMap (opd a)) H.o := rfl
def ftM (m : Mode) (ts : List Tag) : FP := match m with
  | .pure true => ⟨ts, [], false⟩
  | .ext true => ⟨ts, [], false⟩
  | .pure false => ⟨ts, ts, false⟩
  | .ext false => ⟨ts, ts, false⟩
  | .raw _ => ⟨[], [], true⟩
@[go_sem] theorem ftF_fn (E : Env) (g f c vs o) : ftF E (some (.fn (.func g) f c)) vs o = ftM (E.mode g) ((f ++ vs ++ c).flatMap (viewTags o vDepth)) := rfl
@[go_sem] theorem ftM_true (ts) : ftM (.ext true) ts = ⟨ts, [], false⟩ := rfl
@[go_sem] theorem ftM_false (ts) : ftM (.ext false) ts = ⟨ts, ts, false⟩ := rfl
@[go_sem] theorem ftM_raw (z ts) : ftM (.raw z) ts = ⟨[], [], true⟩ := rfl
end
@[go_sem] theorem tagO_some (v) : tagO (some v) = tagOf v := rfl
attribute [go_sem] tagOf FP.none_ List.filterMap_cons List.filterMap_nil
@[go_sem] theorem nin_nil (t) : nin t [] = true := rfl
@[go_sem] theorem nin_cons (i j k m l) : nin (i, j) ((k, m) :: l) = if j = m then (if i = k then false else nin (i, j) l) else nin (i, j) l := by
  unfold nin
  by_cases h1 : j = m <;> by_cases h2 : i = k <;> simp [h1, h2]
@[go_sem] theorem disj_mk (r w r' w') : disj ⟨r, w, false⟩ ⟨r', w', false⟩ = (w.all (fun t => nin t r' && nin t w') && w'.all (fun t => nin t r)) := rfl
@[go_sem] theorem disj_all1 (r w r' w') : disj ⟨r, w, true⟩ ⟨r', w', false⟩ = (r'.isEmpty && w'.isEmpty) := rfl
@[go_sem] theorem disj_all2 (r w r' w') : disj ⟨r, w, false⟩ ⟨r', w', true⟩ = (r.isEmpty && w.isEmpty) := rfl
def disjO (x y : Option FP) : Bool := match x, y with | some x, some y => disj x y | _, _ => false
@[go_sem] theorem disjO_some (x y) : disjO (some x) (some y) = disj x y := rfl
@[go_sem] theorem races_nil (fs) : racesOk fs [] = true := rfl
@[go_sem] theorem races_cons (fs i j l) : racesOk fs ((i, j) :: l) = (disjO fs[i]? fs[j]? && racesOk fs l) := rfl
attribute [go_sem] List.isEmpty_nil List.isEmpty_cons
end Go.Proofs.Ytcaemgpificohaa.A
