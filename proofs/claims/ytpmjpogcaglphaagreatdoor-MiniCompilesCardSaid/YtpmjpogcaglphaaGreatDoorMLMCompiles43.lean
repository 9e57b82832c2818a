/- Compile's machine takes the expression's words. -/
import Derived.Test.YtpmjpogcaglphaaGreatDoorMLMCompiles42
import Derived.Test.YtpmjpogcaglphaaGreatDoorMLMCompiles38
import Derived.Test.YtpmjpogcaglphaaGreatDoorMLMCompiles40
set_option linter.unusedVariables false
set_option linter.unusedSimpArgs false
set_option linter.unnecessarySimpa false
namespace Go.Proofs.YtpmjpogcaglphaaGreatDoor.A
open Go
set_option maxRecDepth 20000
theorem cn9 {x : Nd} (h1 : A4 x = true) (g : okN x = true∧okS x = true) {L : List (List Bool)} {R : List Nat} (hm : an0 (d7 x b0).2.n (d7 x b0).1.1 (d7 x b0).2.s (d7 x b0).2.f 200 = some (L,R)) (hn : (d7 x b0).2.n≤1000) {w : List Int} (hw : av6 w) :
  bl0 L.length (O8 R) (W4 (d7 x b0).1.2 L) w = af2 x w:=by
 obtain ⟨hwf,_⟩:=aO7 g.1 g.2 hn
 have hrm:=di2 h1 (show (d7 x ⟨0,[],[]⟩).2.n≤1000 from hn) hwf w
 have hrb : cX1 (d7 x b0).2.n (d7 x b0).1.1 (d7 x b0).1.2 (d7 x b0).2.s (d7 x b0).2.f w = af2 x w:=by
  classical
  rw[Bool.eq_iff_iff,af2,decide_eq_true_eq]
  exact hrm
 obtain ⟨k,g1,g2,g3⟩:=db3 (F:=(d7 x b0).1.2) hm w hw
 rw[← hrb]
 unfold bl0
 rw[g1,if_pos (by omega),Int.toNat_natCast,g3]
theorem bV9 {x : Nd} (h1 : A4 x = true) (hb : bd0 x≤30) (he : (v7 (p6 0 x)).2.2 = 0) : v7 (p6 0 x) = (x,0,0) := by
 by_cases hl : (p6 0 x).length≤200
 ·exact bz0 h1 hb hl
 ·rw[v7,if_pos (by omega)] at he
  exact absurd he (by decide)
theorem bW0 {x : Nd} (h1 : A4 x = true) (h2 : aG6 x = true) (hb : bd0 x≤30) : (∃ e,e ≠ 0∧V5 (p6 0 x) = (none,e)) ∨ ∃ n N A,WfD n N A∧n≤200∧V5 (p6 0 x) = (some (an2 N A,W5 N A),0)∧∀ w,av6 w→bl0 n N A w = af2 x w := by
 by_cases he : (v7 (p6 0 x)).2.2 = 0
 ·have hp:=bV9 h1 hb he
  have hc : V5 (p6 0 x) = an6 x:=by rw[V5,if_neg (fun h=>h he),hp]
  rw[hc]
  obtain ⟨a,b,c⟩:=ba2 x h1 h2
  rcases aF4 x ⟨a,b⟩ with h | ⟨L,R,hm,hn,hL,hwf,e⟩
  ·exact .inl h
  ·exact .inr ⟨_,_,_,hwf,hL,e,fun w hw=>cn9 h1 ⟨a,b⟩ hm hn hw⟩
 ·exact .inl ⟨_,he,ba3 _ rfl he⟩
end Go.Proofs.YtpmjpogcaglphaaGreatDoor.A
