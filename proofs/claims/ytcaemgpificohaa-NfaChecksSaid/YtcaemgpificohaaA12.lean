/- A, part 12: conversions, lengths, the least and the greatest. -/
import Derived.Test.YtcaemgpificohaaA11
import Derived.Laws.BytesString
set_option linter.unusedVariables false
set_option linter.unusedSimpArgs false
set_option linter.unnecessarySimpa false
namespace Go.Proofs.Ytcaemgpificohaa.A
open Go

section
variable {P : Program} {c : Ctx} {N : Tag → Prop}

theorem aBytes_some : ∀ {cs : List AV} {bs : List UInt8}, aBytes cs = some bs → ∃ xs : List Int, cs = xs.map (AV.int .u8) ∧ bs = xs.map fun n => UInt8.ofNat n.toNat
  | [], bs, h => by
    simp only [aBytes] at h
    injection h with h; subst h
    exact ⟨[], rfl, rfl⟩
  | x :: cs, bs, h => by
    unfold aBytes at h
    split at h
    · rename_i h0; cases h0
    · rename_i n cs' e
      injection e with e1 e2
      subst e1; subst e2
      split at h
      · rename_i bs' hb
        injection h with h; subst h
        obtain ⟨xs, rfl, rfl⟩ := aBytes_some hb
        exact ⟨n :: xs, rfl, rfl⟩
      · cases h
    · cases h

/-- The cells of a slice, wherever they lie. -/
theorem sliceCells_rel (hI : Inv c) {x : AV} {xv : Value} {n : Nat} {cs : List AV} (hx : VR c x xv) (h : sliceCells c.H x = some (n, cs)) (hl : cs.length = n) : ∃ A cap, xv = .slice A n cap ∧ (0 < n → ∃ a, A = some a ∧ ∀ (j : Nat) (y : AV), cs[j]? = some y → ∃ u : Value, c.w.cell? (a.add j) = some u ∧ VR c y u) := by
  unfold sliceCells at h
  split at h
  · injection h with h
    injection h with h1 h2
    subst h1
    obtain rfl := hx.nil_
    exact ⟨none, 0, rfl, fun h => by omega⟩
  · injection h with h
    injection h with h1 h2
    subst h1; subst h2
    obtain ⟨A, cap, rfl, hn, hA0, hA, hc⟩ := hx.sl_
    refine ⟨A, cap, rfl, fun hp => ?_⟩
    obtain ⟨a, rfl⟩ := hA0 hp
    exact ⟨a, rfl, fun j y hy => by obtain ⟨u, a1, _, a3⟩ := hc a j y rfl hy; exact ⟨u, a1, .data _ _ a3⟩⟩
  · rename_i k g off n'
    split at h
    · rename_i r hr
      injection h with h
      injection h with h1 h2
      subst h1
      obtain ⟨_, _, A, cap, rfl, hn, hA, hh⟩ := hx.ref_
      refine ⟨A, cap, rfl, fun hp => ?_⟩
      obtain ⟨q, _⟩ := hh r hr
      refine ⟨_, q (.inr hp), fun j y hy => ?_⟩
      rw [← h2, List.getElem?_take] at hy
      split at hy
      · obtain ⟨u, a1, _, a3⟩ := row_cells hI (aRow_some hr).1 off j y hy
        exact ⟨u, a1, a3⟩
      · cases hy
    · cases h
  · cases h

theorem convert_rel {tg : Tag} (hI : Inv c) (ht : ¬ c.T tg) {s t : TypeId} {x v : AV} {xv : Value} {H H' : AH} (hH : c.H = H.o) (hN : N tg) (hx : VR c x xv) (h : aConvert P tg s t x H = some (v, H')) :
    Does P c N (convert s t xv) v H'.o := by
  unfold aConvert at h
  split at h
  · rename_i d k k' n hs hd
    injection h with h
    injection h with h1 h2
    subst h1; subst h2
    obtain rfl := hx.int_
    exact Says.does hI ⟨_, by simp [convert, run_underlying hs, run_underlying hd, Conv.intToInt], VR.int ..⟩ hH
  · rename_i d sx hs hd
    injection h with h
    injection h with h1 h2
    subst h1; subst h2
    obtain rfl := hx.str_
    exact Says.does hI ⟨.string ⟨sx.toArray⟩, by simp [convert, run_underlying hs, run_underlying hd], VR.str ..⟩ hH
  · rename_i e sx hs hd
    split at h
    · rename_i he
      injection h with h
      injection h with h1 h2
      subst h1; subst h2
      obtain rfl := hx.str_
      obtain ⟨iD, sD⟩ := step_world (c := c) (w := c.w.drew) hI rfl rfl rfl rfl
      have hrun := run_bytes_of_string (P := P) c.w s t e ⟨sx.toArray⟩ hs hd he
      have hge := grownCap_ge c.w sx.length 0 e
      rw [str_size] at hrun
      have hsz : (bytesRow ⟨sx.toArray⟩ (grownCap c.w sx.length 0 e)).size = grownCap c.w sx.length 0 e := by
        simp [bytesRow, str_size]
        omega
      obtain ⟨i1, s1⟩ := new_row (c := c.world c.w.drew) (t := tg) iD ht e 1 false ((bytesRow ⟨sx.toArray⟩ (grownCap c.w sx.length 0 e)).size, (bytesRow ⟨sx.toArray⟩ (grownCap c.w sx.length 0 e)).size + 1) (fun h => by cases h) (sx.map fun b => .int .u8 b.toNat) (bytesRow ⟨sx.toArray⟩ (grownCap c.w sx.length 0 e)) (.inr (by simp; omega)) (by simp; omega) (fun j y hy => by
        have hj : j < sx.length := by have := (List.getElem?_eq_some_iff.1 hy).1; simpa using this
        have hb := bytesRow_at ⟨sx.toArray⟩ (grownCap c.w sx.length 0 e) j (by simpa using hj)
        refine ⟨_, hb, rfl, ?_⟩
        have : y = .int .u8 (sx[j].toNat : Int) := by
          rw [List.getElem?_map, List.getElem?_eq_getElem hj] at hy
          simp at hy
          exact hy.symm
        rw [this]
        exact VR.int ..)
      refine ⟨_, _, hrun, i1, sD.trans s1, by simp [Ctx.new, Ctx.world, mkRow, hH], fun u hu => hu.imp id (fun e => by rw [e]; exact hN), ?_⟩
      exact new_ref (c.world c.w.drew) tg { elem := e, sz := 1, gen := tg, ro := false, plain := false, cs := sx.map fun b => .int .u8 b.toNat } _ _ sx.length _ hge (by simp; omega)
    · cases h
  · rename_i e hs hd _
    split at h
    · rename_i he
      split at h
      · rename_i n cs hcs
        split at h
        · rename_i hl
          cases hb : aBytes cs with
          | none => rw [hb] at h; cases h
          | some bs =>
            rw [hb] at h
            injection h with h
            injection h with h1 h2
            subst h1; subst h2
            rw [← hH] at hcs
            obtain ⟨xs, rfl, rfl⟩ := aBytes_some hb
            obtain ⟨A, cap, rfl, hcell⟩ := sliceCells_rel hI hx hcs hl
            refine Says.does hI ⟨.string ⟨(xs.map fun n => UInt8.ofNat n.toNat).toArray⟩, ?_, VR.str ..⟩ hH
            have hxl : xs.length = n := by simpa using hl
            rcases Nat.eq_zero_or_pos n with h0 | h0
            · subst h0
              have hx0 : xs = [] := List.eq_nil_of_length_eq_zero hxl
              subst hx0
              rw [run_convert_bytes_string c.w s t e _ 0 cap hs he hd]
              cases A with
              | none => simp [Conv.bytesToString]; rfl
              | some a => simp [Conv.bytesToString, loadCells, loadCellsFrom]; rfl
            · obtain ⟨a, rfl, hc⟩ := hcell h0
              have hspot : a = ⟨a.block, a.off, none⟩ := by
                obtain ⟨u, hu, _⟩ := hc 0 _ (List.getElem?_eq_getElem (show 0 < (xs.map (AV.int .u8)).length by simpa [hxl] using h0))
                have : a.add 0 = a := by simp [Addr.add]
                rw [this] at hu
                unfold World.cell? at hu
                split at hu
                · split at hu
                  · cases hu
                  · rename_i hsp
                    obtain ⟨b, o, sp⟩ := a
                    cases sp with
                    | none => rfl
                    | some q => exact absurd rfl hsp
                · cases hu
              rw [hspot]
              have := run_convert_bytes_arg (P := P) c.w s e hs he a.block a.off n cap xs hxl (fun i hi => by
                have hi' : i < (xs.map (AV.int .u8)).length := by simpa [hxl] using hi
                obtain ⟨u, hu, hv⟩ := hc i _ (List.getElem?_eq_getElem hi')
                rw [hspot, plain_add] at hu
                rw [hu]
                have hgi : (xs.map (AV.int .u8))[i] = .int .u8 (xs.getD i 0) := by
                  simp [List.getD_eq_getElem?_getD, List.getElem?_eq_getElem (show i < xs.length by omega)]
                rw [hgi] at hv
                rw [hv.int_]) t hd
              rw [this]
              simp [strOfNums]
        · cases h
      · cases h
    · cases h
  · cases h

theorem len_rel {t : TypeId} {x v : AV} {ty : TypeId} {xv : Value} {rest : List TypeId} (hx : VR c x xv) (h : aLen P c.H t x = some v) : Says P c (Builtin.len_ (t :: rest).toArray ty #[xv]) v := by
  unfold aLen at h
  split at h
  · rename_i s hu
    injection h with h; subst h
    obtain rfl := hx.str_
    exact ⟨_, by simp [Builtin.len_, run_underlying hu, goInt, str_size], VR.int ..⟩
  · rename_i n e hu
    injection h with h; subst h
    exact ⟨_, by simp [Builtin.len_, run_underlying hu, goInt], VR.int ..⟩
  · rename_i e hu
    injection h with h; subst h
    obtain rfl := hx.nil_
    exact ⟨_, by simp [Builtin.len_, run_underlying hu, goInt], VR.int ..⟩
  · rename_i e n cs hu
    injection h with h; subst h
    obtain ⟨A, cap, rfl, _⟩ := hx.sl_
    exact ⟨_, by simp [Builtin.len_, run_underlying hu, goInt], VR.int ..⟩
  · rename_i e k g off n hu
    injection h with h; subst h
    obtain ⟨_, _, A, cap, rfl, _⟩ := hx.ref_
    exact ⟨_, by simp [Builtin.len_, run_underlying hu, goInt], VR.int ..⟩
  · cases h

/-- Values that are related, one by one. -/
def ListRel (c : Ctx) : List AV → List Value → Prop
  | [], [] => True
  | x :: xs, v :: vs => VR c x v ∧ ListRel c xs vs
  | _, _ => False
theorem opds_rel {a : AAct} {ca : Act} (hA : AR c a ca) : ∀ {l : List Operand} {vs : List AV}, opds a l = some vs → ListRel c vs (l.map ca.eval)
  | [], vs, h => by
    simp only [opds] at h
    injection h with h; subst h
    trivial
  | x :: l, vs, h => by
    simp only [opds] at h
    split at h
    · rename_i v vs' hv hvs
      injection h with h; subst h
      exact ⟨opd_rel hA hv, opds_rel hA hvs⟩
    · cases h
theorem max_rel {ts : Array TypeId} {ty : TypeId} {xs : List AV} {vs : List Value} {v : AV} (hx : ListRel c xs vs) (h : aMax xs = some v) : Says P c (Builtin.max_ ts ty vs.toArray) v := by
  unfold aMax at h
  split at h
  · rename_i k x k' y
    match vs, hx with
    | [a, b], hx =>
      obtain ⟨h1, h2, _⟩ := hx
      obtain rfl := h1.int_
      obtain rfl := h2.int_
      split at h
      · rename_i e
        subst e
        injection h with h; subst h
        exact ⟨_, by simp [Builtin.max_, Builtin.max2], VR.int ..⟩
      · cases h
  · cases h
theorem min_rel {ts : Array TypeId} {ty : TypeId} {xs : List AV} {vs : List Value} {v : AV} (hx : ListRel c xs vs) (h : aMin xs = some v) : Says P c (Builtin.min_ ts ty vs.toArray) v := by
  unfold aMin at h
  split at h
  · rename_i k x k' y
    match vs, hx with
    | [a, b], hx =>
      obtain ⟨h1, h2, _⟩ := hx
      obtain rfl := h1.int_
      obtain rfl := h2.int_
      split at h
      · rename_i e
        subst e
        injection h with h; subst h
        exact ⟨_, by simp [Builtin.min_, Builtin.min2], VR.int ..⟩
      · cases h
  · cases h
end

end Go.Proofs.Ytcaemgpificohaa.A
