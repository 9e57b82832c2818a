/- strconv.Itoa: a number's digits, by the kit's shelf. -/
import Derived.Shelf.Strconv.Itoa3
import Derived.Test.YtpmjpogcaglphaaDoorMLMLaws5
import Derived.Test.YtpmjpogcaglphaaDoorMLMLaws4
set_option linter.unusedVariables false
set_option linter.unusedSimpArgs false
set_option linter.unnecessarySimpa false
namespace Go.Proofs.YtpmjpogcaglphaaDoor.A
open Go
noncomputable def cQ1 : Shelf.Ren := ⟨fun x => if x = 171 then 99 else if x = 243 then 101 else if x = 246 then 102 else if x = 283 then 103 else if x = 284 then 104 else if x = 285 then 105 else if x = 286 then 106 else if x = 129 then 108 else if x = 317 then 107 else if x = 318 then 109 else if x = 319 then 110 else if x = 320 then 111 else if x = 337 then 112 else if x = 338 then 113 else x, fun x => if x = 3 then 3 else if x = 9 then 9 else if x = 2 then 2 else if x = 4 then 4 else if x = 171 then 168 else if x = 0 then 0 else if x = 53 then 169 else if x = 37 then 88 else if x = 5 then 5 else if x = 173 then 172 else if x = 212 then 175 else if x = 51 then 176 else if x = 20 then 20 else if x = 213 then 177 else if x = 46 then 63 else if x = 232 then 180 else if x = 233 then 181 else x, fun x => if x = 17 then 1 else if x = 18 then 2 else if x = 19 then 3 else x⟩
theorem cq3 : LaysM.n171 Tryd.prog cQ1 where
 mixed := mixed
 f129 := Tryd.func108.trans (congrArg some (by kernel_rfl))
 f171 := Tryd.func99.trans (congrArg some (by kernel_rfl))
 f243 := Tryd.func101.trans (congrArg some (by kernel_rfl))
 f246 := Tryd.func102.trans (congrArg some (by kernel_rfl))
 f283 := Tryd.func103.trans (congrArg some (by kernel_rfl))
 f284 := Tryd.func104.trans (congrArg some (by kernel_rfl))
 f285 := Tryd.func105.trans (congrArg some (by kernel_rfl))
 f286 := Tryd.func106.trans (congrArg some (by kernel_rfl))
 f317 := Tryd.func107.trans (congrArg some (by kernel_rfl))
 f318 := Tryd.func109.trans (congrArg some (by kernel_rfl))
 f319 := Tryd.func110.trans (congrArg some (by kernel_rfl))
 f320 := Tryd.func111.trans (congrArg some (by kernel_rfl))
 f337 := Tryd.func112.trans (congrArg some (by kernel_rfl))
 f338 := Tryd.func113.trans (congrArg some (by kernel_rfl))
 t0 := Tryd.underlying0
 a0 := Tryd.isAgg0
 z0 := Tryd.sizeOf0
 v0 := Tryd.zeroValue0
 t2 := Tryd.underlying2
 a2 := Tryd.isAgg2
 z2 := Tryd.sizeOf2
 v2 := Tryd.zeroValue2
 t3 := Tryd.underlying3
 a3 := Tryd.isAgg3
 z3 := Tryd.sizeOf3
 v3 := Tryd.zeroValue3
 t4 := Tryd.underlying4
 a4 := Tryd.isAgg4
 z4 := Tryd.sizeOf4
 v4 := Tryd.zeroValue4
 t5 := Tryd.underlying5
 a5 := Tryd.isAgg5
 z5 := Tryd.sizeOf5
 v5 := Tryd.zeroValue5
 t9 := Tryd.underlying9
 a9 := Tryd.isAgg9
 z9 := Tryd.sizeOf9
 v9 := Tryd.zeroValue9
 t20 := Tryd.underlying20
 a20 := Tryd.isAgg20
 z20 := Tryd.sizeOf20
 v20 := Tryd.zeroValue20
 t37 := Tryd.underlying88
 a37 := Tryd.isAgg88
 z37 := Tryd.sizeOf88
 v37 := Tryd.zeroValue88
 t46 := Tryd.underlying63
 a46 := Tryd.isAgg63
 z46 := Tryd.sizeOf63
 v46 := Tryd.zeroValue63
 t51 := Tryd.underlying176
 a51 := Tryd.isAgg176
 z51 := Tryd.sizeOf176
 v51 := Tryd.zeroValue176
 t53 := Tryd.underlying169
 a53 := Tryd.isAgg169
 z53 := Tryd.sizeOf169
 v53 := Tryd.zeroValue169
 t171 := Tryd.underlying168
 a171 := Tryd.isAgg168
 z171 := Tryd.sizeOf168
 v171 := Tryd.zeroValue168
 t173 := Tryd.underlying172
 a173 := Tryd.isAgg172
 z173 := Tryd.sizeOf172
 v173 := Tryd.zeroValue172
 t212 := Tryd.underlying175
 a212 := Tryd.isAgg175
 z212 := Tryd.sizeOf175
 v212 := Tryd.zeroValue175
 t213 := Tryd.underlying177
 a213 := Tryd.isAgg177
 z213 := Tryd.sizeOf177
 t232 := Tryd.underlying180
 a232 := Tryd.isAgg180
 z232 := Tryd.sizeOf180
 v232 := Tryd.zeroValue180
 t233 := Tryd.underlying181
 a233 := Tryd.isAgg181
 z233 := Tryd.sizeOf181
 v233 := Tryd.zeroValue181
 g17 := by kernel_rfl
 g18 := by kernel_rfl
 g19 := by kernel_rfl
 i0 := by kernel_rfl
 i2 := by kernel_rfl
 i3 := by kernel_rfl
 i4 := by kernel_rfl
 i5 := by kernel_rfl
 i9 := by kernel_rfl
 i20 := by kernel_rfl
 i37 := by kernel_rfl
 i46 := by kernel_rfl
 i51 := by kernel_rfl
 i53 := by kernel_rfl
 i171 := by kernel_rfl
 i173 := by kernel_rfl
 i212 := by kernel_rfl
 i232 := by kernel_rfl
 i233 := by kernel_rfl
 m17 := by kernel_rfl
 m18 := by kernel_rfl
 m19 := by kernel_rfl
theorem cq4 {S : Nat → Prop} {w : World} (h : Gl S w) : Lib.TabIs Tryd.prog w "internal/strconv.uint64pow10" .u64 Lib.pow10Tab := by
 obtain ⟨_, t, m, hh⟩ := h _ (List.mem_singleton.2 rfl)
 unfold Lib.TabIs World.var?
 rw [show Tryd.prog.globalNamed "internal/strconv.uint64pow10" = some 1 by kernel_rfl]
 simp only [Option.bind_some]
 rw [hh]
def bF6 (args : List AV) (r : AV) : Prop := ∃ n : Int, -9223372036854775808 ≤ n ∧ n ≤ 9223372036854775807 ∧ args = [.int .i64 n] ∧ r = .str (Lib.itoa n)
theorem bF7 : Q5 bF6 := by
 rintro args r r' ⟨n, _, _, rfl, rfl⟩ ⟨n', _, _, h, rfl⟩
 simp only [List.cons.injEq, AV.int.injEq, true_and, and_true] at h
 rw [h]
theorem bF8 (args r) (h : bF6 args r) : Ok Tryd.prog 99 args r := by
 obtain ⟨n, h0, h1, rfl, rfl⟩ := h
 refine ⟨⟨Tryd.f99, Tryd.func99, by kernel_rfl, by kernel_rfl⟩, fun S w cargs ha hS hG => ?_⟩
 obtain ⟨hl, hr⟩ := ha
 match cargs, hl with
 | [u], _ =>
  have h2 := hr 0 _ _ rfl rfl
  cases h2
  refine (Any.strconv_Itoa cq3 n h0 h1 w (cq4 hG)).mono ?_
  rintro e w' ⟨rfl, k, os, rfl⟩
  have hb : RowKit.Below w.heap.size w (Sort.grow (w.drewN k) os) := by
   have hd : (w.drewN k).heap = w.heap ∧ (w.drewN k).os = w.os ∧ (w.drewN k).tape = w.tape ∧ (w.drewN k).output = w.output := by
    cases k <;> exact ⟨rfl, rfl, rfl, rfl⟩
   refine ⟨hd.2.1, hd.2.2.1, hd.2.2.2, by rw [Sort.size_grow, hd.1]; omega, fun i hi => ?_⟩
   rw [Sort.heap_grow_old _ _ (by rw [hd.1]; exact hi), hd.1]
  refine ⟨_, S, rfl, hb, .str _, fun _ h => h, fun b hb' => ⟨.inl hb', ?_⟩⟩
  have h5 := hS b hb'
  have h6 := hb.size
  omega
end Go.Proofs.YtpmjpogcaglphaaDoor.A
