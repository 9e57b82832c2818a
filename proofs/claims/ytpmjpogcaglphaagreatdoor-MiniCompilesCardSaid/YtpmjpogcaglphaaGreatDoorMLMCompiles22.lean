/- strconv.Itoa: a number's digits, by the kit's shelf. -/
import Derived.Shelf.Strconv.Itoa3
import Derived.Test.YtpmjpogcaglphaaGreatDoorMLMCompiles5
import Derived.Test.YtpmjpogcaglphaaGreatDoorMLMCompiles4
set_option linter.unusedVariables false
set_option linter.unusedSimpArgs false
set_option linter.unnecessarySimpa false
namespace Go.Proofs.YtpmjpogcaglphaaGreatDoor.A
open Go
noncomputable def dD0 : Shelf.Ren := ⟨fun x=>if x = 171 then 91 else if x = 243 then 97 else if x = 246 then 100 else if x = 283 then 104 else if x = 284 then 105 else if x = 285 then 106 else if x = 286 then 107 else if x = 129 then 109 else if x = 317 then 108 else if x = 318 then 110 else if x = 319 then 111 else if x = 320 then 112 else if x = 337 then 113 else if x = 338 then 114 else x,fun x=>if x = 3 then 3 else if x = 9 then 9 else if x = 2 then 2 else if x = 4 then 4 else if x = 171 then 169 else if x = 0 then 0 else if x = 53 then 170 else if x = 37 then 31 else if x = 5 then 5 else if x = 173 then 173 else if x = 212 then 176 else if x = 51 then 177 else if x = 20 then 20 else if x = 213 then 178 else if x = 46 then 86 else if x = 232 then 182 else if x = 233 then 183 else x,fun x=>if x = 17 then 1 else if x = 18 then 2 else if x = 19 then 3 else x⟩
theorem cZ8 : LaysM.n171 Tryz.prog dD0 where
 mixed:=mixed
 f129:=Tryz.func109.trans (congrArg some (by kernel_rfl))
 f171:=Tryz.func91.trans (congrArg some (by kernel_rfl))
 f243:=Tryz.func97.trans (congrArg some (by kernel_rfl))
 f246:=Tryz.func100.trans (congrArg some (by kernel_rfl))
 f283:=Tryz.func104.trans (congrArg some (by kernel_rfl))
 f284:=Tryz.func105.trans (congrArg some (by kernel_rfl))
 f285:=Tryz.func106.trans (congrArg some (by kernel_rfl))
 f286:=Tryz.func107.trans (congrArg some (by kernel_rfl))
 f317:=Tryz.func108.trans (congrArg some (by kernel_rfl))
 f318:=Tryz.func110.trans (congrArg some (by kernel_rfl))
 f319:=Tryz.func111.trans (congrArg some (by kernel_rfl))
 f320:=Tryz.func112.trans (congrArg some (by kernel_rfl))
 f337:=Tryz.func113.trans (congrArg some (by kernel_rfl))
 f338:=Tryz.func114.trans (congrArg some (by kernel_rfl))
 t0:=Tryz.underlying0
 a0:=Tryz.isAgg0
 z0:=Tryz.sizeOf0
 v0:=Tryz.zeroValue0
 t2:=Tryz.underlying2
 a2:=Tryz.isAgg2
 z2:=Tryz.sizeOf2
 v2:=Tryz.zeroValue2
 t3:=Tryz.underlying3
 a3:=Tryz.isAgg3
 z3:=Tryz.sizeOf3
 v3:=Tryz.zeroValue3
 t4:=Tryz.underlying4
 a4:=Tryz.isAgg4
 z4:=Tryz.sizeOf4
 v4:=Tryz.zeroValue4
 t5:=Tryz.underlying5
 a5:=Tryz.isAgg5
 z5:=Tryz.sizeOf5
 v5:=Tryz.zeroValue5
 t9:=Tryz.underlying9
 a9:=Tryz.isAgg9
 z9:=Tryz.sizeOf9
 v9:=Tryz.zeroValue9
 t20:=Tryz.underlying20
 a20:=Tryz.isAgg20
 z20:=Tryz.sizeOf20
 v20:=Tryz.zeroValue20
 t37:=Tryz.underlying31
 a37:=Tryz.isAgg31
 z37:=Tryz.sizeOf31
 v37:=Tryz.zeroValue31
 t46:=Tryz.underlying86
 a46:=Tryz.isAgg86
 z46:=Tryz.sizeOf86
 v46:=Tryz.zeroValue86
 t51:=Tryz.underlying177
 a51:=Tryz.isAgg177
 z51:=Tryz.sizeOf177
 v51:=Tryz.zeroValue177
 t53:=Tryz.underlying170
 a53:=Tryz.isAgg170
 z53:=Tryz.sizeOf170
 v53:=Tryz.zeroValue170
 t171:=Tryz.underlying169
 a171:=Tryz.isAgg169
 z171:=Tryz.sizeOf169
 v171:=Tryz.zeroValue169
 t173:=Tryz.underlying173
 a173:=Tryz.isAgg173
 z173:=Tryz.sizeOf173
 v173:=Tryz.zeroValue173
 t212:=Tryz.underlying176
 a212:=Tryz.isAgg176
 z212:=Tryz.sizeOf176
 v212:=Tryz.zeroValue176
 t213:=Tryz.underlying178
 a213:=Tryz.isAgg178
 z213:=Tryz.sizeOf178
 t232:=Tryz.underlying182
 a232:=Tryz.isAgg182
 z232:=Tryz.sizeOf182
 v232:=Tryz.zeroValue182
 t233:=Tryz.underlying183
 a233:=Tryz.isAgg183
 z233:=Tryz.sizeOf183
 v233:=Tryz.zeroValue183
 g17:=by kernel_rfl
 g18:=by kernel_rfl
 g19:=by kernel_rfl
 i0:=by kernel_rfl
 i2:=by kernel_rfl
 i3:=by kernel_rfl
 i4:=by kernel_rfl
 i5:=by kernel_rfl
 i9:=by kernel_rfl
 i20:=by kernel_rfl
 i37:=by kernel_rfl
 i46:=by kernel_rfl
 i51:=by kernel_rfl
 i53:=by kernel_rfl
 i171:=by kernel_rfl
 i173:=by kernel_rfl
 i212:=by kernel_rfl
 i232:=by kernel_rfl
 i233:=by kernel_rfl
 m17:=by kernel_rfl
 m18:=by kernel_rfl
 m19:=by kernel_rfl
theorem cZ9 {S : Nat → Prop} {w : World} (h : Gl S w) : Lib.TabIs Tryz.prog w "internal/strconv.uint64pow10" .u64 Lib.pow10Tab := by
 obtain ⟨_,t,m,hh⟩:=h _ (List.mem_singleton.2 rfl)
 unfold Lib.TabIs World.var?
 rw [show Tryz.prog.globalNamed "internal/strconv.uint64pow10" = some 1 by kernel_rfl]
 simp only[Option.bind_some]
 rw[hh]
def cg8 (args : List AV) (r : AV) : Prop := ∃ n : Int,-9223372036854775808≤n∧n≤9223372036854775807∧args = [.int .i64 n]∧r = .str (Lib.itoa n)
theorem cg9 : N2 cg8 := by
 rintro args r r' ⟨n,_,_,rfl,rfl⟩ ⟨n',_,_,h,rfl⟩
 simp only[List.cons.injEq,AV.int.injEq,true_and,and_true] at h
 rw[h]
theorem ch0 (args r) (h : cg8 args r) : Ok Tryz.prog 91 args r := by
 obtain ⟨n,h0,h1,rfl,rfl⟩:=h
 refine ⟨⟨Tryz.f91,Tryz.func91,by kernel_rfl,by kernel_rfl⟩,fun S w cargs ha hS hG=>?_⟩
 obtain ⟨hl,hr⟩:=ha
 match cargs,hl with
 | [u],_ =>
  have h2:=hr 0 _ _ rfl rfl
  cases h2
  refine (Any.strconv_Itoa cZ8 n h0 h1 w (cZ9 hG)).mono ?_
  rintro e w' ⟨rfl,k,os,rfl⟩
  have hb : RowKit.Below w.heap.size w (Sort.grow (w.drewN k) os):=by
   have hd : (w.drewN k).heap = w.heap∧(w.drewN k).os = w.os∧(w.drewN k).tape = w.tape∧(w.drewN k).output = w.output:=by
    cases k <;> exact ⟨rfl,rfl,rfl,rfl⟩
   refine ⟨hd.2.1,hd.2.2.1,hd.2.2.2,by rw[Sort.size_grow,hd.1];omega,fun i hi=>?_⟩
   rw[Sort.heap_grow_old _ _ (by rw[hd.1];exact hi),hd.1]
  refine ⟨_,S,rfl,hb,.str _,fun _ h=>h,fun b hb'=>⟨.inl hb',?_⟩⟩
  have h5:=hS b hb'
  have h6:=hb.size
  omega
end Go.Proofs.YtpmjpogcaglphaaGreatDoor.A
